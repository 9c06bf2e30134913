/- MatureApart as a contract. Condition: the sizes are words of 16 bits. -/
import Derived.Test.YtjgjablmkljfoaaMatS
set_option linter.unusedVariables false
set_option linter.unusedSimpArgs false
namespace Go.Proofs.Ytjgjablmkljfoaa.Ma
open Go.RowKit Go.Proofs.Ytjgjablmkljfoaa.W Go.Proofs.Ytjgjablmkljfoaa.Cl
abbrev rowI8 (A : Option Addr) (c : Nat) (D : List Int) : Pr := rowP 3 A D.length c (D.map (Value.int .i64))
theorem row_at {W w : World} {oo : Nat → Prop} {l : List Pr} {A : Option Addr} {c : Nat} {D : List Int} (h : SepO W oo w l) (k : Nat) (hk : l[k]? = some (rowI8 A c D)) {i : Nat} (hi : i < D.length) : ∃ G off, A = some ⟨G, off, none⟩ ∧ w.cell? ⟨G, off + i, none⟩ = some (.int .i64 D[i]) := by
  obtain ⟨o, h1, _⟩ := h.sl (k' := .i64) (e := 3) (A := A) (c := c) (L := D) k hk
  obtain ⟨A', c', e, _, h3⟩ := h1
  simp only [Value.slice.injEq, true_and] at e
  obtain ⟨rfl, rfl⟩ := e
  obtain ⟨G, off, rfl, _, _, h4⟩ := h3 (by omega)
  exact ⟨G, off, rfl, by rw [h4 i hi]; simp [hi]⟩
theorem old_at {w : World} {A : Option Addr} {l : List Int} {k : IntKind} (hc : 0 < l.length → ∃ b o, A = some ⟨b, o, none⟩ ∧ (fun i => i < w.heap.size) b ∧ b < w.heap.size ∧ ∀ j, j < l.length → w.cell? ⟨b, o + j, none⟩ = some (.int k (l[j]?.getD 0))) {j : Nat} (hj : j < l.length) :
    ∃ b o, A = some ⟨b, o, none⟩ ∧ ∀ wr, Keep (fun _ => False) w wr → wr.cell? ⟨b, o + j, none⟩ = some (.int k l[j]) := by
  obtain ⟨b, o, hA, _, hlt, h⟩ := hc (by omega)
  refine ⟨b, o, hA, fun wr hk => ?_⟩
  rw [World.cell?_of_block (hk.block b hlt (fun h => h)), h j hj]
  simp [hj]
set_option maxRecDepth 20000 in
set_option maxHeartbeats 8000000 in
theorem Apart_calls {v2 : Value} {l2 : List Int} (a0 a1 : Int) (w : World) (p0 : 0 ≤ a0 ∧ a0 ≤ 255) (p1 : 0 ≤ a1 ∧ a1 ≤ 255) (g2 : SL w (fun i => i < w.heap.size) .u16 v2 l2) (q2 : ∀ x ∈ l2, 0 ≤ x ∧ x ≤ 65535) :
    Calls Try.prog 3 #[.int .u8 a0, .int .u8 a1, v2] w fun e w' => e = .returned (.bool true) ∧ Below w.heap.size w w' := by
  obtain ⟨A1, c1, rfl, hm1, hc1⟩ := g2
  obtain ⟨i1, i2, i3, i4, i5⟩ := info_parts info_int
  have HC1 := Lib.hid hc1
  have Q1 := Lib.hid q2
  clear hc1 q2
  obtain ⟨p, hp⟩ : ∃ p : Nat, a0 % 20 = p := ⟨(a0 % 20).toNat, by omega⟩
  obtain ⟨n, hn⟩ : ∃ n : Nat, a1 % 120 = n := ⟨(a1 % 120).toNat, by omega⟩
  have hp1 : p < 20 := by omega
  have hn1 : n < 120 := by omega
  have HP := Lib.hid hp
  have HN := Lib.hid hn
  have r0 : 0 ≤ a0 % 20 := by omega
  have r1 : a0 % 20 < 20 := by omega
  have r2 : 0 ≤ a1 % 120 := by omega
  have r3 : a1 % 120 < 120 := by omega
  obtain ⟨p00, p01⟩ := p0
  obtain ⟨p10, p11⟩ := p1
  clear hp hn
  go_enter Try.func3, Try.ntmps3
  go_wp2_with fail
  rw [HP.out, HN.out]
  clear r0 r1 r2 r3 p00 p01 p10 p11
  refine (New_sep 1000 p (n + 16) (Sep.nil w)).mono ?_
  rintro e w1 ⟨b, rfl, h1⟩
  have hai := ai_new (f := 1000) (n := (n : Int) + 16) (p := p) (by omega) (by omega) (by omega)
  have h2 := h1.new_row 3 #[] (by simp)
  have H2 := Lib.hid h2
  have HA := Lib.hid hai
  clear h1 h2 hai
  go_wp2_with fail
  go_loopg [10, 11] 60 (fun gk z1 z2 wr => ∃ (j : Nat) (s : MS) (D : List Int) (A : Option Addr) (c : Nat), j + gk = 60 ∧ z2 = .int .i64 j ∧ z1 = .slice A D.length c ∧ AI 1000 (n + 16) p s D ∧ D.length ≤ j ∧ Sep w wr [Mat b s, rowI8 A c D])
  case atStart => exact ⟨0, _, [], _, 0, by omega, rfl, rfl, HA.out, by simp, H2.out⟩
  case round =>
    clear H2 HA
    obtain ⟨j, s, D, A, c, hj, rfl, rfl, hai, hDj, h⟩ := hrel
    have HJ := Lib.hid hj
    have HA := Lib.hid hai
    have hj60 : j ≤ 60 := by omega
    clear hj hai
    by_cases hc : j < l2.length ∧ j < 60
    · obtain ⟨hlt, hlt2⟩ := hc
      obtain ⟨b1, o1, rfl, hce⟩ := old_at HC1.out hlt
      have hq := Q1.out l2[j] (List.getElem_mem _)
      obtain ⟨x, hx⟩ : ∃ x, l2[j] = x := ⟨_, rfl⟩
      rw [hx] at hq
      simp only [hx] at hce
      obtain ⟨q0, q1⟩ := hq
      have x0 := hce _ h.keep0
      have m0 : 0 ≤ x % 600 := by omega
      have m1 : x % 600 < 600 := by omega
      have H := Lib.hid h
      have HCE := Lib.hid hce
      clear h hce hx
      have e60 : decide ((j : Int) < 60) = true := by simp; omega
      go_wp2_with fail
      refine (Take_sep (x % 600 + 1) (by omega) H.out 0 rfl).mono ?_
      rintro e w2 ⟨rfl, h2⟩
      cases ht : s.took (x % 600 + 1) with
      | none =>
        rw [take_none ht] at h2
        have H2 := Lib.hid h2
        simp only [oI, Option.isSome]
        clear h2 ht H x0 HCE
        go_wp2_with fail
        go_roundg (gk - 1)
        case measure => have := HJ.out; omega
        case rel => exact ⟨j + 1, s, D, A, c, by have := HJ.out; omega, by go_num, rfl, HA.out, by omega, H2.out⟩
      | some a =>
        obtain ⟨hai, hha, hsz, hf, hen, hol⟩ := ai_take HA.out (by omega) ht
        obtain ⟨s', hs'⟩ : ∃ s', s.take (x % 600 + 1) = s' := ⟨_, rfl⟩
        rw [hs'] at hai hha hsz hen hol h2
        obtain ⟨z, hz⟩ : ∃ z, s'.size a = z := ⟨_, rfl⟩
        rw [hz] at hsz hen
        simp only [hz] at hol
        have HAI := Lib.hid hai
        have HOL := Lib.hid hol
        have HZ := Lib.hid hz
        have HH := Lib.hid hha
        have H2 := Lib.hid h2
        have pw0 : 0 ≤ (p : Int) * ((n : Int) + 16) := Int.mul_nonneg (by omega) (by omega)
        have pw1 : (p : Int) * ((n : Int) + 16) ≤ 20 * 136 := Int.mul_le_mul (by omega) (by omega) (by omega) (by omega)
        simp only [oI, Option.isSome]
        clear h2 ht H hai hha hz hs' hol HA
        go_wp2_with fail
        refine (Size_sep a (by omega) H2.out 0 rfl).mono ?_
        rintro e w3 ⟨rfl, h3⟩
        rw [HZ.out, HH.out]
        have x3 := HCE.out _ h3.keep0
        have H3 := Lib.hid h3
        have d1 : decide (z < x % 600 + 1) = false := by simp; omega
        have d2 : decide (a < 1000) = false := by simp; omega
        have d3 : decide (1000 + (p : Int) * ((n : Int) + 16) < a + z) = false := by simp; omega
        clear h3 H2 x0
        go_wp2_with fail
        have H3' : Sep w w3 [Mat b s', rowI8 A c D] := H3.out
        clear x3 d1 d2 d3 HH HCE
        obtain ⟨gz, rfl⟩ : ∃ x, x = gk := ⟨_, rfl⟩
        go_loopg [16] D.length (fun gk z1 wr => ∃ m : Nat, m + gk = D.length ∧ z1 = .int .i64 m ∧ Sep w wr [Mat b s', rowI8 A c D])
        case atStart => exact ⟨0, by omega, rfl, H3'⟩
        case round =>
          clear H3 H3'
          obtain ⟨m, hm, rfl, h⟩ := hrel
          have HM := Lib.hid hm
          have hmD : m ≤ D.length := by omega
          clear hm
          by_cases hlt3 : m < D.length
          · obtain ⟨G, off, rfl, y0⟩ := row_at h 1 rfl hlt3
            obtain ⟨y, hy⟩ : ∃ y, D[m] = y := ⟨_, rfl⟩
            have hyD : y ∈ D := by rw [← hy]; exact List.getElem_mem _
            rw [hy] at y0
            have HY := Lib.hid hy
            obtain ⟨hys, hyo⟩ := HOL.out y hyD
            obtain ⟨i, k, q, hu, hqs⟩ := has_use HAI.out.si.ok hys
            have hend := use_end HAI.out.si.ok hu
            rw [← hqs, HAI.out.f, HAI.out.w, HAI.out.len] at hend
            obtain ⟨t, ht⟩ : ∃ t, s'.size y = t := ⟨_, rfl⟩
            rw [ht] at hyo hend
            have hpos := (use_in HAI.out.si.ok hu).2.1
            rw [← hqs, ht] at hpos
            have HT := Lib.hid ht
            have HYS := Lib.hid hys
            have H := Lib.hid h
            clear h ht hys hqs hu hy hyD
            go_wp2_with fail
            refine (Size_sep y (by omega) H.out 0 rfl).mono ?_
            rintro e w4 ⟨rfl, h4⟩
            rw [HT.out, HYS.out]
            obtain ⟨G', off', e', y4⟩ := row_at h4 1 rfl hlt3
            cases e'
            rw [HY.out] at y4
            have H4 := Lib.hid h4
            clear h4 H y0
            rcases hyo with hyo | hyo
            · have d1 : decide (a < y + t) = false := by simp; omega
              go_wp2_with fail
              go_roundg (gk - 1)
              case measure => have := HM.out; omega
              case rel => exact ⟨m + 1, by have := HM.out; omega, by go_num, H4.out⟩
            · have d1 : decide (y < a + z) = false := by simp; omega
              go_wp2_with fail
              all_goals
                go_roundg (gk - 1)
                case measure => have := HM.out; omega
                case rel => exact ⟨m + 1, by have := HM.out; omega, by go_num, H4.out⟩
          · have H6 := Lib.hid h
            clear h
            go_wp2_with (at_builtin; refine wpList_append_sep rfl _ _ 25 rfl 3 i1 (.int .i64 0) 8 Try.underlying25 i2 i3 i4 i5 rfl A D.length c (D.map (Value.int .i64)) rfl wr.heap.size (.int .i64 a) rfl (H6.out.alloc _) 1 rfl ?c1 rfl ?c2 ?c3 ?_)
            case c1 => exact (Blk.new _ _ _).cell 0
            case c2 => omega
            case c3 => omega
            intro A2 c2 w2 h2
            have h3 : Sep w w2 [Mat b s', rowI8 A2 c2 (D ++ [a])] := by
              have e : (D ++ [a]).length = D.length + 1 := by simp
              unfold rowI8
              rw [e, List.map_append]
              exact h2
            have HD : (D ++ [a]).length = D.length + 1 := by simp
            have H7 := Lib.hid h3
            clear h2 h3
            rw [← HD]
            go_wp2_with fail
            go_roundg (gz - 1)
            case measure => have := HJ.out; omega
            case rel => exact ⟨j + 1, s', D ++ [a], A2, c2, by have := HJ.out; omega, by go_num, rfl, HAI.out, by omega, H7.out⟩
    · have H0 := Lib.hid h
      clear h
      rcases (by omega : ¬ j < l2.length ∨ (j < l2.length ∧ ¬ j < 60)) with hx | ⟨hx, hx'⟩
      all_goals
        clear hc
        go_wp2_with fail
        go_loopg [19] D.length (fun gk z1 wr => ∃ (m : Nat) (s : MS), m + gk = D.length ∧ z1 = .int .i64 m ∧ AI 1000 (n + 16) p s (D.drop m) ∧ Sep w wr [Mat b s, rowI8 A c D])
        case atStart => exact ⟨0, s, by omega, rfl, by rw [List.drop_zero]; exact HA.out, H0.out⟩
        case round =>
          clear H0 HA
          obtain ⟨m, s, hm, rfl, hai, h⟩ := hrel
          have HM := Lib.hid hm
          have hmD : m ≤ D.length := by omega
          clear hm
          by_cases hlt3 : m < D.length
          · obtain ⟨G, off, rfl, y0⟩ := row_at h 1 rfl hlt3
            rw [List.drop_eq_getElem_cons hlt3] at hai
            obtain ⟨y, hy⟩ : ∃ y, D[m] = y := ⟨_, rfl⟩
            rw [hy] at y0 hai
            obtain ⟨hys, hai2⟩ := ai_give hai
            obtain ⟨i, k, q, hu, hqs⟩ := has_use hai.si.ok hys
            have hend := use_end hai.si.ok hu
            have hpos := (use_in hai.si.ok hu).2.1
            rw [hai.f, hai.w, hai.len] at hend
            rw [hai.w] at hpos
            have pw1 : (p : Int) * ((n : Int) + 16) ≤ 20 * 136 := Int.mul_le_mul (by omega) (by omega) (by omega) (by omega)
            have hyb : 1000 ≤ y ∧ y ≤ 4000 := by omega
            have HYS := Lib.hid hys
            have HA2 := Lib.hid hai2
            have H := Lib.hid h
            clear h hys hqs hu hy hai hai2 hend hpos pw1
            go_wp2_with fail
            refine (Give_sep y (by omega) H.out 0 rfl).mono ?_
            rintro e w4 ⟨rfl, h4⟩
            rw [HYS.out]
            have H4 := Lib.hid h4
            clear h4 H y0
            go_wp2_with fail
            go_roundg (gk - 1)
            case measure => have := HM.out; omega
            case rel => exact ⟨m + 1, s.give y, by have := HM.out; omega, by go_num, HA2.out, H4.out⟩
          · rw [List.drop_of_length_le (by omega)] at hai
            obtain ⟨f1, f2, f3⟩ := none_all hai.si (ai_none hai)
            rw [hai.len] at f1
            have F1 := Lib.hid f1
            have F2 := Lib.hid f2
            have F3 := Lib.hid f3
            have H := Lib.hid h
            clear h f1 f2 f3 hai
            go_wp2_with fail
            refine (awake_calls _).mono ?_
            rintro e w4 ⟨rfl, k4⟩
            have H4 := Lib.hid (H.out.stay k4.keep0)
            clear k4 H
            go_wp2_with fail
            refine (Used_sep H4.out 0 rfl).mono ?_
            rintro e w5 ⟨rfl, h5⟩
            rw [F2.out]
            have H5 := Lib.hid h5
            clear h5 H4
            go_wp2_with fail
            refine (Free_sep H5.out 0 rfl).mono ?_
            rintro e w6 ⟨rfl, h6⟩
            rw [F1.out]
            have H6 := Lib.hid h6
            clear h6 H5
            go_wp2_with fail
            refine (Starts_sep 0 1073741824 H6.out 0 rfl).mono ?_
            rintro e w7 ⟨A7, c7, rfl, h7⟩
            rw [F3.out]
            have H7 := Lib.hid h7
            clear h7 H6
            simp only [List.length_nil]
            go_wp2_with fail
            go_ret
            exact ⟨rfl, H7.out.below⟩
end Go.Proofs.Ytjgjablmkljfoaa.Ma
