/- The reference's space: Take of what is large. No condition. -/
import Derived.Test.YtjgjablmkljfoaaMrE
import Derived.Deep.RegionLaw
set_option linter.unusedVariables false
set_option linter.unusedSimpArgs false
namespace Go.Proofs.Ytjgjablmkljfoaa.Mr
open Go.RowKit Go.Proofs.Ytjgjablmkljfoaa.W Go.Proofs.Ytjgjablmkljfoaa.Cl Go.Proofs.Ytjgjablmkljfoaa.Ma Go.Proofs.Ytjgjablmkljfoaa.CR
def allF (s : RS) (n k : Nat) : Bool := (List.range k).all fun j => freeB s ((n : Int) + (j : Int))
theorem allF_succ (s : RS) (n k : Nat) : allF s n (k + 1) = (allF s n k && freeB s ((n : Int) + (k : Int))) := by
  unfold allF; rw [List.range_succ, List.all_append]; simp
/-- The first place of so many free pages. -/
def rrow (s : RS) (c : Nat) : Nat → Nat → Option Nat
  | 0, _ => none
  | d + 1, n => if n + c ≤ s.p then (if allF s n c then some n else rrow s c d (n + 1)) else none
def lcell (s : RS) (n c : Nat) : Ce := ⟨s.f + n * s.w, c * s.w, true, true⟩
section
variable {W w : World} {oo : Nat → Prop} {b g : Nat} {A : Option Addr} {c : Nat} {s : RS}
set_option maxRecDepth 20000 in
theorem Take_low (x : Int) (w : World) (v : Value) (hx : x < 1) : Calls Try.prog 20 #[v, .int .i64 x] w fun e w' => e = .returned (.tuple #[.int .i64 0, .bool false]) ∧ w' = w := by
  go_enter Try.func20, Try.ntmps20
  go_wp2_with fail
  go_ret2
  exact ⟨rfl, rfl⟩
theorem r_app (h : SepO W oo w (rparts b g A c s)) {l : List Ce} {A' : Option Addr} {c' : Nat} {w' : World} (h' : SepO W oo w' [blkP b 45 (scr g A c s), rowK 63 4 (.slice A' l.length c') l.length (ccs l), blkP g 4 (bools s.pd)]) :
    SepO W oo (w'.setCell ⟨b, 3, none⟩ (.slice A' l.length c')) (rparts b g A' c' { s with cs := l }) := by
  exact h'.set_blk (t := 45) (cs := scr g A c s) (g := b) 0 rfl 3 (.slice A' l.length c')
set_option maxRecDepth 20000 in
set_option maxHeartbeats 4000000 in
theorem Take_big (x : Int) (h : SepO W oo w (rparts b g A c s)) (hs : s.ok) (hx : 1 ≤ x) (hx9 : x ≤ 9223372036854775807) (hb : s.w / 2 < rnd x) (hlen : s.cs.length < 20000) {C : Nat} (hC : pgs s.w x = C) : Calls Try.prog 20 #[pt b, .int .i64 x] w fun e w' =>
    (rrow s C (s.p + 1) 0 = none ∧ e = .returned (.tuple #[.int .i64 0, .bool false]) ∧ SepO W oo w' (rparts b g A c s)) ∨ ∃ n, rrow s C (s.p + 1) 0 = some n ∧ e = .returned (.tuple #[.int .i64 (s.f + n * s.w), .bool true]) ∧ ∃ A' c', SepO W oo w' (rparts b g A' c' { s with cs := s.cs ++ [lcell s n C] }) := by
  obtain ⟨i1, i2, i3, i4, i5⟩ := info_parts info_cell
  have hw0 := hs.w0
  have hw1 := hs.w1
  have hp1 := hs.p1
  have hf0 := hs.f0
  have hf1 := hs.f1
  have hC1 := pgs_b hw0 hx
  rw [hC] at hC1
  obtain ⟨hC1, hC2⟩ := hC1
  have hPG := fun w => Pages_calls s.w x w hw0 hw1 hx hx9
  rw [hC] at hPG
  have HPG := Lib.hid hPG
  obtain ⟨V, hV⟩ : ∃ V, rrow s C (s.p + 1) 0 = V := ⟨_, rfl⟩
  rw [hV]
  have HV := Lib.hid hV
  have H := Lib.hid h
  have c2 := (r_b h).cell 2
  simp at c2
  have hrb := rnd_b x
  obtain ⟨r, hr⟩ : ∃ r, rnd x = r := ⟨_, rfl⟩
  rw [hr] at hb hrb
  have HR := Lib.hid hr
  have d1 : decide (s.w.tdiv 2 < r) = true := by rw [Int.tdiv_eq_ediv_of_nonneg (by omega)]; simpa using hb
  obtain ⟨hrb0, hrb1⟩ := hrb
  have HLEN := Lib.hid hlen
  clear h hV hPG hC hr hlen
  go_enter Try.func20, Try.ntmps20
  go_wp2_with fail
  refine (Round_calls x _).mono ?_
  rintro e w1 ⟨rfl, rfl⟩
  rw [HR.out]
  go_wp2_with fail
  refine (HPG.out _).mono ?_
  rintro e w1 ⟨rfl, rfl⟩
  go_wp2_with fail
  clear c2 d1
  go_loopg [8, 9, 10, 11] (s.p + 1) (fun gk z y1 y2 y3 wr => ∃ n : Nat, gk = s.p + 1 - n ∧ n ≤ s.p ∧ z = .int .i64 n ∧ (n = 0 ∨ n + C ≤ s.p + 1) ∧ rrow s C gk n = V ∧ SepO W oo wr (rparts b g A c s))
  case atStart => exact ⟨0, by omega, by omega, rfl, .inl rfl, HV.out, H.out⟩
  case round =>
    clear H HV
    obtain ⟨n, hn, hnp, rfl, hnC, hv, h⟩ := hrel
    have HG := Lib.hid hn
    have HV := Lib.hid hv
    have c1 := (r_b h).cell 1
    simp at c1
    have hnC2 : (n : Int) + C ≤ 9223372036854775807 := by omega
    clear hn hv
    obtain ⟨d, hd⟩ : ∃ d, gk = d + 1 := ⟨gk - 1, by have := HG.out; omega⟩
    have hv := HV.out
    rw [hd] at hv
    unfold rrow at hv
    have HD := Lib.hid hd
    have HS := Lib.hid h
    clear HV h hd
    by_cases hcp : n + C ≤ s.p
    · rw [if_pos hcp] at hv
      have HV := Lib.hid hv
      clear hv
      have d2 : decide ((0 : Int) < C) = true := by simp; omega
      have d2N : decide (0 < C) = true := by simp; omega
      have d3N : decide (n + C ≤ s.p) = true := by simpa using hcp
      have d3 : decide ((n : Int) + C ≤ s.p) = true := by simp; omega
      go_wp2_with fail
      obtain ⟨gz, rfl⟩ : ∃ x, x = gk := ⟨_, rfl⟩
      go_loopg [9, 10] C (fun gk z y wr => ∃ (k : Nat) (B : Bool), k + gk = C ∧ y = .int .i64 k ∧ z = .bool B ∧ allF s n k = B ∧ SepO W oo wr (rparts b g A c s))
      case atStart => exact ⟨0, true, by omega, rfl, rfl, rfl, HS.out⟩
      case round =>
        clear HS c1
        obtain ⟨k, B, hk, rfl, rfl, hB, h⟩ := hrel
        have HK := Lib.hid hk
        have HB := Lib.hid hB
        have hkC : k ≤ C := by omega
        have H := Lib.hid h
        have hsc := allF_succ s n k
        rw [hB] at hsc
        have HSC := Lib.hid hsc
        clear hk hB hsc
        by_cases hlt : k < C
        · clear h
          have hltI : (k : Int) < C := by omega
          cases hBt : B
          · rw [hBt, Bool.false_and] at HSC
            clear hBt
            go_wp2_with fail
            go_roundg (gk - 1)
            case measure => have := HK.out; omega
            case rel => exact ⟨k + 1, false, by have := HK.out; omega, by go_num, rfl, HSC.out, H.out⟩
          · rw [hBt, Bool.true_and] at HSC
            clear hBt
            go_wp2_with fail
            refine (free_in _ H.out hs).mono ?_
            rintro e w3 ⟨rfl, h3⟩
            have H3 := Lib.hid h3
            clear h3 H
            obtain ⟨fb, hfb⟩ : ∃ fb, freeB s ((n : Int) + (k : Int)) = fb := ⟨_, rfl⟩
            rw [hfb]
            rw [hfb] at HSC
            clear hfb
            go_wp2_with fail
            go_roundg (gk - 1)
            case measure => have := HK.out; omega
            case rel => exact ⟨k + 1, fb, by have := HK.out; omega, by go_num, rfl, HSC.out, H3.out⟩
        · have hkC2 : k = C := by omega
          have hB := HB.out
          rw [hkC2] at hB
          have hv := HV.out
          rw [hB] at hv
          clear hkC2
          cases hBt : B
          · rw [hBt, if_neg (by simp)] at hv
            have HV2 := Lib.hid hv
            clear hv hBt HB hB HV h
            go_wp2_with fail
            go_roundg d
            case measure => have := HD.out; omega
            case rel => exact ⟨n + 1, by have := HG.out; have := HD.out; omega, by omega, by go_num, .inr (by omega), HV2.out, H.out⟩
          · rw [hBt, if_pos rfl] at hv
            have HVS := Lib.hid hv
            have c0 := (r_b h).cell 0
            have c2 := (r_b h).cell 2
            have c3 := (r_b h).cell 3
            have hbl := (r_b h).lt
            have zf := (r_b h).frozen 3
            simp at c0 c2 c3
            clear hBt HB hB HV HSC HK hv h
            have hn64 : n ≤ 64 := by omega
            have hC64 : C ≤ 64 := by omega
            have m1 : 0 ≤ (n : Int) * s.w := Int.mul_nonneg (by omega) (by omega)
            have m2 : (n : Int) * s.w ≤ 64 * 256 := Int.mul_le_mul (by omega) hw1 (by omega) (by omega)
            have m3 : 0 ≤ (C : Int) * s.w := Int.mul_nonneg (by omega) (by omega)
            have m4 : (C : Int) * s.w ≤ 64 * 256 := Int.mul_le_mul (by omega) hw1 (by omega) (by omega)
            obtain ⟨a, ha⟩ : ∃ a, (n : Int) * s.w = a := ⟨_, rfl⟩
            rw [ha] at m1 m2
            obtain ⟨q, hq⟩ : ∃ q, (C : Int) * s.w = q := ⟨_, rfl⟩
            rw [hq] at m3 m4
            have s1 := IntWalk.i64_in a (by omega)
            have s2 := IntWalk.i64_in (s.f + a) (by omega)
            have s3 : IntKind.i64.wrap ((C : Int) * s.w) = q := by rw [hq]; exact IntWalk.i64_in q (by omega)
            go_wp2_with fail
            go_quiet (fail)
            go_wp2_with fail
            have sA : SepO W oo ((wr.drewN (nq + 1)).alloc (.cells #[.int .i64 (s.f + a), .int .i64 q, .bool true, .bool true] 63)) (rparts b g A c s) := (H.out.drewN _).alloc _
            have eA : ∀ j u, [Value.int .i64 (s.f + a), .int .i64 q, .bool true, .bool true][j]? = some u → ((wr.drewN (nq + 1)).alloc (.cells #[.int .i64 (s.f + a), .int .i64 q, .bool true, .bool true] 63)).cell? ((⟨wr.heap.size, 0, none⟩ : Addr).add j) = some u := fun j u hu => new4 (wr.drewN (nq + 1)) _ _ _ _ _ j u hu
            have hfin : ∀ A' c' w', SepO W oo w' ((rparts b g A c s).set 1 (rowK 63 4 (.slice A' (s.cs.length + 1) c') (s.cs.length + 1) (ccs s.cs ++ [Value.int .i64 (s.f + a), .int .i64 q, .bool true, .bool true]))) → SepO W oo (w'.setCell ⟨b, 3, none⟩ (.slice A' (s.cs.length + 1) c')) (rparts b g A' c' { s with cs := s.cs ++ [lcell s n C] }) := fun A' c' w' h' => by
              have e1 : (s.cs ++ [lcell s n C]).length = s.cs.length + 1 := by simp
              have := r_app H.out (l := s.cs ++ [lcell s n C]) (A' := A') (c' := c') (w' := w') (by
                rw [e1, ccs_app]
                unfold lcell
                rw [ha, hq]
                exact h')
              rw [e1] at this
              exact this
            have ca2 : ((wr.drewN (nq + 1)).alloc (.cells #[.int .i64 (s.f + a), .int .i64 q, .bool true, .bool true] 63)).cell? ⟨b, 2, none⟩ = some (.int .i64 s.w) := by rw [(r_b sA).cell 2]; rfl
            have ca3 : ((wr.drewN (nq + 1)).alloc (.cells #[.int .i64 (s.f + a), .int .i64 q, .bool true, .bool true] 63)).cell? ⟨b, 3, none⟩ = some (.slice A s.cs.length c) := by rw [(r_b sA).cell 3]; rfl
            have SA := Lib.hid sA
            have EA := Lib.hid eA
            have HF := Lib.hid hfin
            have HA := Lib.hid ha
            have hlen := HLEN.out
            clear sA eA hfin ha hq hC2 hnC hnC2 hcp hlt hkC m2 m4
            go_region_law (first | (refine step_append_rowK rfl (.tmp 78) (.tmp 87) 43 rfl 63 i1 (.agg #[.int .i64 0, .int .i64 0, .bool false, .bool false]) 4 24 Try.underlying43 i2 i3 i4 i5 rfl (by decide) (.slice A s.cs.length c) s.cs.length (ccs s.cs) (by simp [Act.eval, Act.put]) SA.out 1 rfl ⟨wr.heap.size, 0, none⟩ [.int .i64 (s.f + a), .int .i64 q, .bool true, .bool true] (by simp [Act.eval, Act.put]) rfl EA.out (by intro u hu; simp at hu; rcases hu with rfl | rfl | rfl <;> rfl) (by omega) (by omega) ?_; intro A' c' w' h'; have zc := (h'.blk (g := b) 0 rfl).cell 3; have zf2 := (h'.blk (g := b) 0 rfl).frozen 3; have zl := (h'.blk (g := b) 0 rfl).lt; have HH := Lib.hid (HF.out _ _ _ h'); clear h'))
            all_goals
              go_wp2_with fail
              go_ret2
              obtain rfl := HA.out
              exact .inr ⟨n, HVS.out.symm, rfl, _, _, HH.out⟩
    · rw [if_neg hcp] at hv
      have HVN := Lib.hid hv
      clear hv
      have d3 : decide ((n : Int) + C ≤ s.p) = false := by simp; omega
      go_wp2_with fail
      go_ret2
      exact .inl ⟨HVN.out.symm, rfl, HS.out⟩
end
end Go.Proofs.Ytjgjablmkljfoaa.Mr
