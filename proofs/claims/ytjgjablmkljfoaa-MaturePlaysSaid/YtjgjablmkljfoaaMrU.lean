/- alike of the laws of mature. No condition. -/
import Derived.Test.YtjgjablmkljfoaaMrT
import Derived.IntWalk
set_option linter.unusedVariables false
set_option linter.unusedSimpArgs false
namespace Go.Proofs.Ytjgjablmkljfoaa.Mr
open Go.RowKit Go.Proofs.Ytjgjablmkljfoaa.W Go.Proofs.Ytjgjablmkljfoaa.Cl Go.Proofs.Ytjgjablmkljfoaa.Ma Go.Proofs.Ytjgjablmkljfoaa.Sm
section
variable {W w : World} {oo : Nat → Prop} {b d : Nat} {s : MS} {r : RS}
set_option maxRecDepth 20000 in
set_option maxHeartbeats 8000000 in
theorem alike_in (x : Int) (hx : -9223372036854775808 ≤ x ∧ x ≤ 9223372036854775807) (hR : Rel s r) (h : SepO W oo w [Mat b s, Rsp d r]) :
    Calls Try.prog 24 #[pt b, pt d, .int .i64 x] w fun e w' => e = .returned (.bool true) ∧ SepO W oo w' [Mat b s, Rsp d r] := by
  have hok := hR.si.ok
  obtain ⟨⟨f0, f1⟩, ⟨w0, wle⟩, hl, _⟩ := hok
  have H := Lib.hid h
  have HR := Lib.hid hR
  clear h hR
  go_enter Try.func24, Try.ntmps24
  go_wp2_with fail
  refine (Count_rs HR.out H.out 1 rfl).mono ?_
  rintro e w1 ⟨rfl, h1⟩
  obtain ⟨fr, hfr⟩ : ∃ fr : Int, (freeN s.l : Int) = fr := ⟨_, rfl⟩
  obtain ⟨us, hus⟩ : ∃ us, usL s.f s.w s.l s.l 0 = us := ⟨_, rfl⟩
  rw [hfr, hus]
  have FR := Lib.hid hfr
  have US := Lib.hid hus
  have H1 := Lib.hid h1
  clear H h1 hfr hus
  go_wp2_with fail
  refine (Free_sep H1.out 0 rfl).mono ?_
  rintro e w2 ⟨rfl, h2⟩
  rw [FR.out]
  have H2 := Lib.hid h2
  clear H1 h2
  go_wp2_with fail
  refine (Used_sep H2.out 0 rfl).mono ?_
  rintro e w3 ⟨rfl, h3⟩
  rw [US.out]
  have H3 := Lib.hid h3
  clear H2 h3
  go_wp2_with fail
  refine (Size_sep x hx H3.out 0 rfl).mono ?_
  rintro e w4 ⟨rfl, h4⟩
  obtain ⟨sz, hsz⟩ : ∃ sz, s.size x = sz := ⟨_, rfl⟩
  obtain ⟨ha, hha⟩ : ∃ ha, s.has x = ha := ⟨_, rfl⟩
  rw [hsz, hha]
  have SZ := Lib.hid hsz
  have HA := Lib.hid hha
  have H4 := Lib.hid h4
  clear H3 h4 hsz hha
  go_wp2_with fail
  refine (Size_rs HR.out x H4.out 1 rfl).mono ?_
  rintro e w5 ⟨rfl, h5⟩
  rw [SZ.out, HA.out]
  have H5 := Lib.hid h5
  have hb1 : (ha != ha) = false := by cases ha <;> rfl
  clear H4 h5
  go_wp2_with fail
  go_loopg [13, 14, 15, 16, 17] s.l.length (fun gk fi pe ii y1 y2 wr => ∃ j : Nat, j + gk = s.l.length ∧ ii = .int .i64 j ∧ fi = .int .i64 (oK (pn (s.l.take j))) ∧ pe = .bool (pn (s.l.take j)).isSome ∧ SepO W oo wr [Mat b s, Rsp d r])
  case atStart => exact ⟨0, by omega, rfl, rfl, rfl, H5.out⟩
  case round =>
    clear H5 hb1
    obtain ⟨j, hj, rfl, rfl, rfl, h⟩ := hrel
    have HJ := Lib.hid hj
    have hjl : j ≤ s.l.length := by omega
    obtain ⟨c0, c1, c2, g, c4, cg, _⟩ := Rsp_cells HR.out h 1 rfl
    have H := Lib.hid h
    clear hj h
    by_cases hlt : j < s.l.length
    · obtain ⟨p, hp⟩ : ∃ p, s.l[j]? = some p := ⟨s.l[j], List.getElem?_eq_getElem hlt⟩
      have zc := cg j p hp
      have hpn := pn_take hp
      have HPG := fun (w : World) (h : SepO W oo w [Mat b s, Rsp d r]) => Page_sep (j : Int) h 0 rfl
      have e1 : (if 0 ≤ (j : Int) ∧ (j : Int) < s.l.length then s.f + (j : Int) * s.w else 0) = s.f + (j : Int) * s.w := if_pos ⟨by omega, by omega⟩
      have e2 : (if 0 ≤ (j : Int) ∧ (j : Int) < s.l.length then s.f + (j : Int) * s.w + s.w else 0) = s.f + (j : Int) * s.w + s.w := if_pos ⟨by omega, by omega⟩
      rw [e1, e2] at HPG
      have m1 : 0 ≤ (j : Int) * s.w := Int.mul_nonneg (by omega) (by omega)
      have m2 : (j : Int) * s.w ≤ 64 * 256 := Int.mul_le_mul (by omega) wle (by omega) (by omega)
      obtain ⟨q, hq⟩ : ∃ q, (j : Int) * s.w = q := ⟨_, rfl⟩
      rw [hq] at HPG m1 m2
      have s1 : IntKind.i64.wrap ((j : Int) * s.w) = q := by rw [hq]; exact IntWalk.i64_in q (by omega)
      have s2 := IntWalk.i64_in (s.f + q) (by omega)
      have s3 := IntWalk.i64_in (s.f + q + s.w) (by omega)
      have HPG' := Lib.hid HPG
      obtain ⟨L, hL⟩ : ∃ L, stL s.f s.w (s.f + q) (s.f + q + s.w) s.l 0 = L := ⟨_, rfl⟩
      have hst1 : ∀ w, SepO W oo w [Mat b s, Rsp d r] → Calls Try.prog 15 #[pt b, .int .i64 (s.f + q), .int .i64 (s.f + q + s.w)] w fun e w' => ∃ A c, e = .returned (.slice A L.length c) ∧ SepO W oo w' [Mat b s, Rsp d r, rowI8 A c L] := fun w h => by
        have := Starts_sep (s.f + q) (s.f + q + s.w) h 0 rfl
        rw [hL] at this
        exact this
      have hst2 : ∀ w A c, SepO W oo w [Mat b s, Rsp d r, rowI8 A c L] → Calls Try.prog 23 #[pt d, .int .i64 (s.f + q), .int .i64 (s.f + q + s.w)] w fun e w' => ∃ A' c', e = .returned (.slice A' L.length c') ∧ SepO W oo w' [Mat b s, Rsp d r, rowI8 A c L, rowI8 A' c' L] := fun w A c h => by
        have := Starts_rs HR.out (s.f + q) (s.f + q + s.w) h 1 rfl
        rw [hL] at this
        exact this
      have hst3 : ∀ w A c A' c', SepO W oo w [Mat b s, Rsp d r, rowI8 A c L, rowI8 A' c' L] → Calls Try.prog 43 #[.slice A L.length c, .slice A' L.length c'] w fun e w' => e = .returned (.bool true) ∧ ∃ n, w' = w.drewN n := fun w A c A' c' h => by
        obtain ⟨o1, g1, _⟩ := h.sl (k' := .i64) (e := 3) (A := A) (c := c) (L := L) 2 rfl
        obtain ⟨o2, g2, _⟩ := h.sl (k' := .i64) (e := 3) (A := A') (c := c') (L := L) 3 rfl
        have := Ints_calls w g1 g2
        simpa using this
      have hcl : ∀ w l, SepO W oo w ([Mat b s, Rsp d r] ++ l) → w.cell? ⟨d, 0, none⟩ = some (.int .i64 s.f) ∧ w.cell? ⟨d, 2, none⟩ = some (.int .i64 s.w) := fun w l h => by
        obtain ⟨a0, _, a2, _⟩ := Rsp_cells HR.out h.first 1 rfl
        exact ⟨a0, a2⟩
      have HS1 := Lib.hid hst1
      have HS2 := Lib.hid hst2
      have HS3 := Lib.hid hst3
      have HCL := Lib.hid hcl
      have HPN := Lib.hid hpn
      clear hp cg hpn HPG e1 e2 hq hL hst1 hst2 hst3 hcl
      obtain ⟨P, hP⟩ : ∃ P, pn (s.l.take j) = P := ⟨_, rfl⟩
      rw [hP] at HPN ⊢
      clear hP
      cases P with
      | some k0 =>
        have hk1 : (pn (s.l.take (j + 1))) = some k0 := HPN.out
        have HK := Lib.hid hk1
        simp only [oK, Option.isSome]
        clear hk1 HPN
        cases hpe : p.pend
        · rw [hpe] at zc
          clear hpe
          go_wp2_with fail
          refine (HPG'.out _ H.out).mono ?_
          rintro e w6 ⟨rfl, h6⟩
          obtain ⟨y0, y2⟩ := HCL.out w6 [] h6
          have H6 := Lib.hid h6
          clear H h6 c0 c1 c2 c4 zc
          go_wp2_with fail
          go_region_held3 (fun w' => w'.cell? ⟨d, 0, none⟩ = some (.int .i64 s.f) ∧ w'.cell? ⟨d, 2, none⟩ = some (.int .i64 s.w)) (first | exact ⟨y0, y2⟩ | exact ⟨z0, z2⟩ | exact ⟨t0, t2⟩ | go_keep) ((first | (go_at_call 15; (with_reducible refine (HS1.out _ ?hx).mono ?_); (case hx => exact H6.out.drewN _); rintro e w7 ⟨A7, c7, rfl, h7⟩; have z0 := (HCL.out _ _ h7).1; have z2 := (HCL.out _ _ h7).2) | (go_at_call 23; (with_reducible refine (HS2.out _ _ _ h7).mono ?_); rintro e w8 ⟨A8, c8, rfl, h8⟩; have t0 := (HCL.out _ _ h8).1; have t2 := (HCL.out _ _ h8).2) | (go_at_call 43; (with_reducible refine (HS3.out _ _ _ _ _ h8).mono ?_); rintro e w9 ⟨rfl, n9, rfl⟩)))
          go_wp2_with fail
          go_roundg (gk - 1)
          case measure => have := HJ.out; omega
          case rel => exact ⟨j + 1, by have := HJ.out; omega, by go_num, by rw [HK.out]; rfl, by rw [HK.out]; rfl, (h8.first (l := [Mat b s, Rsp d r])).drewN _⟩
        · rw [hpe] at zc
          clear hpe
          go_wp2_with fail
          refine (HPG'.out _ H.out).mono ?_
          rintro e w6 ⟨rfl, h6⟩
          obtain ⟨y0, y2⟩ := HCL.out w6 [] h6
          have H6 := Lib.hid h6
          clear H h6 c0 c1 c2 c4 zc
          go_wp2_with fail
          go_region_held3 (fun w' => w'.cell? ⟨d, 0, none⟩ = some (.int .i64 s.f) ∧ w'.cell? ⟨d, 2, none⟩ = some (.int .i64 s.w)) (first | exact ⟨y0, y2⟩ | exact ⟨z0, z2⟩ | exact ⟨t0, t2⟩ | go_keep) ((first | (go_at_call 15; (with_reducible refine (HS1.out _ ?hx).mono ?_); (case hx => exact H6.out.drewN _); rintro e w7 ⟨A7, c7, rfl, h7⟩; have z0 := (HCL.out _ _ h7).1; have z2 := (HCL.out _ _ h7).2) | (go_at_call 23; (with_reducible refine (HS2.out _ _ _ h7).mono ?_); rintro e w8 ⟨A8, c8, rfl, h8⟩; have t0 := (HCL.out _ _ h8).1; have t2 := (HCL.out _ _ h8).2) | (go_at_call 43; (with_reducible refine (HS3.out _ _ _ _ _ h8).mono ?_); rintro e w9 ⟨rfl, n9, rfl⟩)))
          go_wp2_with fail
          go_roundg (gk - 1)
          case measure => have := HJ.out; omega
          case rel => exact ⟨j + 1, by have := HJ.out; omega, by go_num, by rw [HK.out]; rfl, by rw [HK.out]; rfl, (h8.first (l := [Mat b s, Rsp d r])).drewN _⟩
      | none =>
        simp only [oK, Option.isSome]
        cases hpe : p.pend
        · have hk1 : (pn (s.l.take (j + 1))) = none := by rw [HPN.out, hpe]; rfl
          have HK := Lib.hid hk1
          rw [hpe] at zc
          clear hpe hk1 HPN
          go_wp2_with fail
          refine (HPG'.out _ H.out).mono ?_
          rintro e w6 ⟨rfl, h6⟩
          obtain ⟨y0, y2⟩ := HCL.out w6 [] h6
          have H6 := Lib.hid h6
          clear H h6 c0 c1 c2 c4 zc
          go_wp2_with fail
          go_region_held3 (fun w' => w'.cell? ⟨d, 0, none⟩ = some (.int .i64 s.f) ∧ w'.cell? ⟨d, 2, none⟩ = some (.int .i64 s.w)) (first | exact ⟨y0, y2⟩ | exact ⟨z0, z2⟩ | exact ⟨t0, t2⟩ | go_keep) ((first | (go_at_call 15; (with_reducible refine (HS1.out _ ?hx).mono ?_); (case hx => exact H6.out.drewN _); rintro e w7 ⟨A7, c7, rfl, h7⟩; have z0 := (HCL.out _ _ h7).1; have z2 := (HCL.out _ _ h7).2) | (go_at_call 23; (with_reducible refine (HS2.out _ _ _ h7).mono ?_); rintro e w8 ⟨A8, c8, rfl, h8⟩; have t0 := (HCL.out _ _ h8).1; have t2 := (HCL.out _ _ h8).2) | (go_at_call 43; (with_reducible refine (HS3.out _ _ _ _ _ h8).mono ?_); rintro e w9 ⟨rfl, n9, rfl⟩)))
          go_wp2_with fail
          go_roundg (gk - 1)
          case measure => have := HJ.out; omega
          case rel => exact ⟨j + 1, by have := HJ.out; omega, by go_num, by rw [HK.out]; rfl, by rw [HK.out]; rfl, (h8.first (l := [Mat b s, Rsp d r])).drewN _⟩
        · have hk1 : (pn (s.l.take (j + 1))) = some j := by rw [HPN.out, hpe]; rfl
          have HK := Lib.hid hk1
          rw [hpe] at zc
          clear hpe hk1 HPN
          go_wp2_with fail
          refine (HPG'.out _ H.out).mono ?_
          rintro e w6 ⟨rfl, h6⟩
          obtain ⟨y0, y2⟩ := HCL.out w6 [] h6
          have H6 := Lib.hid h6
          clear H h6 c0 c1 c2 c4 zc
          go_wp2_with fail
          go_region_held3 (fun w' => w'.cell? ⟨d, 0, none⟩ = some (.int .i64 s.f) ∧ w'.cell? ⟨d, 2, none⟩ = some (.int .i64 s.w)) (first | exact ⟨y0, y2⟩ | exact ⟨z0, z2⟩ | exact ⟨t0, t2⟩ | go_keep) ((first | (go_at_call 15; (with_reducible refine (HS1.out _ ?hx).mono ?_); (case hx => exact H6.out.drewN _); rintro e w7 ⟨A7, c7, rfl, h7⟩; have z0 := (HCL.out _ _ h7).1; have z2 := (HCL.out _ _ h7).2) | (go_at_call 23; (with_reducible refine (HS2.out _ _ _ h7).mono ?_); rintro e w8 ⟨A8, c8, rfl, h8⟩; have t0 := (HCL.out _ _ h8).1; have t2 := (HCL.out _ _ h8).2) | (go_at_call 43; (with_reducible refine (HS3.out _ _ _ _ _ h8).mono ?_); rintro e w9 ⟨rfl, n9, rfl⟩)))
          go_wp2_with fail
          go_roundg (gk - 1)
          case measure => have := HJ.out; omega
          case rel => exact ⟨j + 1, by have := HJ.out; omega, by go_num, by rw [HK.out]; rfl, by rw [HK.out]; rfl, (h8.first (l := [Mat b s, Rsp d r])).drewN _⟩
    · rw [List.take_of_length_le (by omega)]
      have hjp : j = s.l.length := by omega
      obtain ⟨PK, hPK⟩ : ∃ P, oK (pn s.l) = P := ⟨_, rfl⟩
      obtain ⟨PB, hPB⟩ : ∃ P, (pn s.l).isSome = P := ⟨_, rfl⟩
      have hpi : pnI s = PK := by rw [← hPK]; unfold pnI oK; rfl
      rw [hPK, hPB]
      have HPI := Lib.hid hpi
      have HPB := Lib.hid hPB
      clear hjp hPK hPB hpi cg
      go_wp2_with fail
      refine (Pending_sep H.out 0 rfl).mono ?_
      rintro e w6 ⟨rfl, h6⟩
      rw [HPI.out, HPB.out]
      obtain ⟨_, d1, _⟩ := Rsp_cells HR.out h6 1 rfl
      have H6 := Lib.hid h6
      clear H h6 c0 c1 c2 c4
      go_wp2_with fail
      have e1 : ∀ y, (if 0 ≤ (s.l.length : Int) ∧ (s.l.length : Int) < s.l.length then y else (0 : Int)) = 0 := fun y => if_neg (by omega)
      have e2 : ∀ y, (if 0 ≤ (-1 : Int) ∧ (-1 : Int) < s.l.length then y else (0 : Int)) = 0 := fun y => if_neg (by omega)
      have hp1 := Page_sep (s.l.length : Int) H6.out 0 rfl
      have hp2 := fun w (h : SepO W oo w [Mat b s, Rsp d r]) => Page_sep (-1 : Int) h 0 rfl
      simp only [e1, e2] at hp1 hp2
      have HP2 := Lib.hid hp2
      clear hp2 e1 e2
      refine hp1.mono ?_
      rintro e w7 ⟨rfl, h7⟩
      have H7 := Lib.hid h7
      clear h7 hp1 H6
      go_wp2_with fail
      refine (HP2.out _ H7.out).mono ?_
      rintro e w8 ⟨rfl, h8⟩
      have H8 := Lib.hid h8
      have eb : (PB == PB) = true := by cases PB <;> rfl
      clear h8 H7
      go_wp2_with fail
      go_ret
      exact ⟨rfl, H8.out⟩
end
end Go.Proofs.Ytjgjablmkljfoaa.Mr
