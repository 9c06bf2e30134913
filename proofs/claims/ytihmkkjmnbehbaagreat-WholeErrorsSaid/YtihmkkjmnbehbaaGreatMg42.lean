/- Texts of the whole heap, joined: WiH WiI. No condition beside those that each lemma names. -/
import Derived.Test.YtihmkkjmnbehbaaGreatMg41
/- An entry of a script: the walk. Condition: the heap is as it should be. -/
set_option linter.unusedVariables false
set_option linter.unusedSimpArgs false
namespace Go.Proofs.YtihmkkjmnbehbaaGreat.Wh
open Go.RowKit Go.Proofs.YtihmkkjmnbehbaaGreat.W Go.Proofs.YtihmkkjmnbehbaaGreat.Sm
section
variable {W w : World} {oo : Nat → Prop} {k : CK} {S : CS} {l L : List Pr} {F : FuncId} {args : Array Value} {hb : Nat} {c : CF}
set_option maxRecDepth 20000 in
set_option maxHeartbeats 8000000 in
theorem do1_in (xa xb xc xv : Int) (hx1 : I64 xa) (hx2 : I64 xb) (hx3 : I64 xc) (hx4 : 0 ≤ xv ∧ xv ≤ 18446744073709551615) (hO : Ok S) (h : SepO W oo w (cparts k S ++ (hbP hb k :: l))) : Calls Tryz.prog 18 #[pt hb, .agg #[i6 1, i6 xa, i6 xb, i6 xc, .int .u64 xv]] w fun e w' => e = .returned (S.doMake ⟨1, xa, xb, xc, xv⟩).1.val ∧ ∃ A m, SepO W oo w' (cparts (k.rw A m) (S.doMake ⟨1, xa, xb, xc, xv⟩).2 ++ (hbP hb k :: l)) := by
  obtain ⟨c0, hbl⟩ := h_at h
  obtain ⟨T, hT⟩ : ∃ T, S.doMake ⟨1, xa, xb, xc, xv⟩ = T := ⟨_, rfl⟩
  rw [hT]
  obtain ⟨z, hzz, hbz, hz⟩ := fr_in ⟨1, xa, xb, xc, xv⟩ h
  have nb1 : ¬ hb = z + 1 := by omega
  have nb0 : ¬ hb = z := by omega
  have nc1 : ¬ z + 1 = hb := by omega
  have nc0 : ¬ z = hb := by omega
  simp only [] at hz
  have q0 := (fr_at hz).1
  simp only [] at q0
  have HZ := Lib.hid hz
  have hw : (⟨1, xa, xb, xc, xv⟩ : A5).wf := ⟨⟨by simp, by simp⟩, hx1, hx2, hx3, hx4⟩
  have HW := Lib.hid hw
  have HO := Lib.hid hO
  have HT := Lib.hid hT
  clear h hO hT hz q0 hx1 hx2 hx3 hx4 hw
  go_enter Tryz.func18, Tryz.ntmps18
  go_wp2_with fail
  refine (make_in (l := (l ++ [stP z ⟨1, xa, xb, xc, xv⟩]) ++ [anP (z + 1) an0]) ⟨1, xa, xb, xc, xv⟩ HW.out HO.out HZ.out).mono ?_
  rintro e w5 ⟨rfl, A, m, h5⟩
  rw [HT.out] at h5 ⊢
  replace h5 : SepO W oo w5 (cparts (k.rw A m) T.2 ++ frL hb k l z ⟨1, xa, xb, xc, xv⟩ an0) := h5
  obtain ⟨f0, y0, y1, y2, y3, yf, yb, yz, yl⟩ := fr_at (k := k.rw A m) h5
  have H5 := Lib.hid h5
  clear h5 f0 HZ HO HT
  obtain ⟨⟨Te, Ty, Tn, Tv⟩, U⟩ := T
  go_wp2_with fail
  obtain ⟨w9, hw9, h9, e0, e1, e2, e3⟩ := an_put (a0 := an0) ⟨Te, Ty, Tn, Tv⟩ H5.out
  rw [← hw9]
  refine bodyPost_ret (v := An.val ⟨Te, Ty, Tn, Tv⟩) (by simp [results, Tryz.results18, go_sem, e0, e1, e2, e3]) rfl ⟨rfl, A, m, c_drop (c_drop h9)⟩
set_option maxRecDepth 20000 in
set_option maxHeartbeats 8000000 in
theorem do2_in (xa xb xc xv : Int) (hx1 : I64 xa) (hx2 : I64 xb) (hx3 : I64 xc) (hx4 : 0 ≤ xv ∧ xv ≤ 18446744073709551615) (hO : Ok S) (h : SepO W oo w (cparts k S ++ (hbP hb k :: l))) : Calls Tryz.prog 18 #[pt hb, .agg #[i6 2, i6 xa, i6 xb, i6 xc, .int .u64 xv]] w fun e w' => e = .returned (pr1 (S.getF xa xb xc)).1.val ∧ ∃ A m, SepO W oo w' (cparts (k.rw A m) (pr1 (S.getF xa xb xc)).2 ++ (hbP hb k :: l)) := by
  obtain ⟨c0, hbl⟩ := h_at h
  obtain ⟨T, hT⟩ : ∃ T, pr1 (S.getF xa xb xc) = T := ⟨_, rfl⟩
  rw [hT]
  obtain ⟨z, hzz, hbz, hz⟩ := fr_in ⟨2, xa, xb, xc, xv⟩ h
  have nb1 : ¬ hb = z + 1 := by omega
  have nb0 : ¬ hb = z := by omega
  have nc1 : ¬ z + 1 = hb := by omega
  have nc0 : ¬ z = hb := by omega
  simp only [] at hz
  have q0 := (fr_at hz).1
  simp only [] at q0
  have HZ := Lib.hid hz
  obtain ⟨U, hU⟩ : ∃ U, S.getF xa xb xc = U := ⟨_, rfl⟩
  rw [hU] at hT
  obtain ⟨U1, U2⟩ := U
  obtain rfl : T = (⟨U1, false, 0, 0⟩, U2) := hT.symm
  have hc : ∀ w', SepO W oo w' (cparts k S ++ frL hb k l z ⟨2, xa, xb, xc, xv⟩ an0) → Calls Tryz.prog 36 #[pt k.c, .int .i64 xa, .int .i64 xb, .int .i64 xc] w' fun e w'' => e = .returned (.int .i64 U1) ∧ ∃ A m, SepO W oo w'' (cparts (k.rw A m) U2 ++ frL hb k l z ⟨2, xa, xb, xc, xv⟩ an0) := fun w' h' => by
    have := Get_in xa xb xc hx3 hO.tb (by have := hO.nb.1; unfold RB at this ⊢; omega) h'
    rw [hU] at this
    exact this
  have HC := Lib.hid hc
  clear h hO hT hz hU hc hx1 hx2 hx3 hx4
  go_enter Tryz.func18, Tryz.ntmps18
  go_wp2_with fail
  go_region_held3 (fun w' => w'.cell? ⟨hb, 0, none⟩ = some (pt k.c) ∧ w'.cell? ⟨z, 0, none⟩ = some (i6 2) ∧ w'.cell? ⟨z, 1, none⟩ = some (i6 xa) ∧ w'.cell? ⟨z, 2, none⟩ = some (i6 xb) ∧ w'.cell? ⟨z, 3, none⟩ = some (i6 xc) ∧ w'.cell? ⟨z, 4, none⟩ = some (.int .u64 xv)) (first | exact q0 | exact f0 | exact f1 | go_keep) ((go_at_call 36; (with_reducible refine (HC.out _ ?hx).mono ?_); (case hx => first | exact HZ.out | exact HZ.out.drew | exact HZ.out.drewN _); rintro e w5 ⟨rfl, A, m, h5⟩; obtain ⟨f0, y0, y1, y2, y3, yf, yb, yz, yl⟩ := fr_at (k := k.rw A m) h5; have f1 := (fr_at (fr_put (k := k.rw A m) ⟨U1, false, 0, 0⟩ h5)).1))
  have H5 := Lib.hid h5
  clear h5 f0 f1 q0 HZ HC
  go_wp2_with fail
  obtain ⟨w9, hw9, h9, e0, e1, e2, e3⟩ := an_put (a0 := an0) ⟨U1, false, 0, 0⟩ H5.out
  rw [← hw9]
  refine bodyPost_ret (v := An.val ⟨U1, false, 0, 0⟩) (by simp [results, Tryz.results18, go_sem, e0, e1, e2, e3]) rfl ⟨rfl, A, m, c_drop (c_drop h9)⟩
set_option maxRecDepth 20000 in
set_option maxHeartbeats 8000000 in
theorem do3_in (xa xb xc xv : Int) (hx1 : I64 xa) (hx2 : I64 xb) (hx3 : I64 xc) (hx4 : 0 ≤ xv ∧ xv ≤ 18446744073709551615) (hO : Ok S) (h : SepO W oo w (cparts k S ++ (hbP hb k :: l))) : Calls Tryz.prog 18 #[pt hb, .agg #[i6 3, i6 xa, i6 xb, i6 xc, .int .u64 xv]] w fun e w' => e = .returned (pr1 (S.setF xa xb xc)).1.val ∧ ∃ A m, SepO W oo w' (cparts (k.rw A m) (pr1 (S.setF xa xb xc)).2 ++ (hbP hb k :: l)) := by
  obtain ⟨c0, hbl⟩ := h_at h
  obtain ⟨T, hT⟩ : ∃ T, pr1 (S.setF xa xb xc) = T := ⟨_, rfl⟩
  rw [hT]
  obtain ⟨z, hzz, hbz, hz⟩ := fr_in ⟨3, xa, xb, xc, xv⟩ h
  have nb1 : ¬ hb = z + 1 := by omega
  have nb0 : ¬ hb = z := by omega
  have nc1 : ¬ z + 1 = hb := by omega
  have nc0 : ¬ z = hb := by omega
  simp only [] at hz
  have q0 := (fr_at hz).1
  simp only [] at q0
  have HZ := Lib.hid hz
  obtain ⟨U, hU⟩ : ∃ U, S.setF xa xb xc = U := ⟨_, rfl⟩
  rw [hU] at hT
  obtain ⟨U1, U2⟩ := U
  obtain rfl : T = (⟨U1, false, 0, 0⟩, U2) := hT.symm
  have hc : ∀ w', SepO W oo w' (cparts k S ++ frL hb k l z ⟨3, xa, xb, xc, xv⟩ an0) → Calls Tryz.prog 37 #[pt k.c, .int .i64 xa, .int .i64 xb, .int .i64 xc] w' fun e w'' => e = .returned (.int .i64 U1) ∧ ∃ A m, SepO W oo w'' (cparts (k.rw A m) U2 ++ frL hb k l z ⟨3, xa, xb, xc, xv⟩ an0) := fun w' h' => by
    have := Set_in xa xb xc hx2 hO.tb h'
    rw [hU] at this
    exact (this.mono fun e w'' ⟨h1, h2⟩ => ⟨h1, k.A, k.n, h2⟩)
  have HC := Lib.hid hc
  clear h hO hT hz hU hc hx1 hx2 hx3 hx4
  go_enter Tryz.func18, Tryz.ntmps18
  go_wp2_with fail
  go_region_held3 (fun w' => w'.cell? ⟨hb, 0, none⟩ = some (pt k.c) ∧ w'.cell? ⟨z, 0, none⟩ = some (i6 3) ∧ w'.cell? ⟨z, 1, none⟩ = some (i6 xa) ∧ w'.cell? ⟨z, 2, none⟩ = some (i6 xb) ∧ w'.cell? ⟨z, 3, none⟩ = some (i6 xc) ∧ w'.cell? ⟨z, 4, none⟩ = some (.int .u64 xv)) (first | exact q0 | exact f0 | exact f1 | go_keep) ((go_at_call 37; (with_reducible refine (HC.out _ ?hx).mono ?_); (case hx => first | exact HZ.out | exact HZ.out.drew | exact HZ.out.drewN _); rintro e w5 ⟨rfl, A, m, h5⟩; obtain ⟨f0, y0, y1, y2, y3, yf, yb, yz, yl⟩ := fr_at (k := k.rw A m) h5; have f1 := (fr_at (fr_put (k := k.rw A m) ⟨U1, false, 0, 0⟩ h5)).1))
  have H5 := Lib.hid h5
  clear h5 f0 f1 q0 HZ HC
  go_wp2_with fail
  obtain ⟨w9, hw9, h9, e0, e1, e2, e3⟩ := an_put (a0 := an0) ⟨U1, false, 0, 0⟩ H5.out
  rw [← hw9]
  refine bodyPost_ret (v := An.val ⟨U1, false, 0, 0⟩) (by simp [results, Tryz.results18, go_sem, e0, e1, e2, e3]) rfl ⟨rfl, A, m, c_drop (c_drop h9)⟩
set_option maxRecDepth 20000 in
set_option maxHeartbeats 8000000 in
theorem do5_in (xa xb xc xv : Int) (hx1 : I64 xa) (hx2 : I64 xb) (hx3 : I64 xc) (hx4 : 0 ≤ xv ∧ xv ≤ 18446744073709551615) (hO : Ok S) (h : SepO W oo w (cparts k S ++ (hbP hb k :: l))) : Calls Tryz.prog 18 #[pt hb, .agg #[i6 5, i6 xa, i6 xb, i6 xc, .int .u64 xv]] w fun e w' => e = .returned (pr1 (S.writeF xa xb xv)).1.val ∧ ∃ A m, SepO W oo w' (cparts (k.rw A m) (pr1 (S.writeF xa xb xv)).2 ++ (hbP hb k :: l)) := by
  obtain ⟨c0, hbl⟩ := h_at h
  obtain ⟨T, hT⟩ : ∃ T, pr1 (S.writeF xa xb xv) = T := ⟨_, rfl⟩
  rw [hT]
  obtain ⟨z, hzz, hbz, hz⟩ := fr_in ⟨5, xa, xb, xc, xv⟩ h
  have nb1 : ¬ hb = z + 1 := by omega
  have nb0 : ¬ hb = z := by omega
  have nc1 : ¬ z + 1 = hb := by omega
  have nc0 : ¬ z = hb := by omega
  simp only [] at hz
  have q0 := (fr_at hz).1
  simp only [] at q0
  have HZ := Lib.hid hz
  obtain ⟨U, hU⟩ : ∃ U, S.writeF xa xb xv = U := ⟨_, rfl⟩
  rw [hU] at hT
  obtain ⟨U1, U2⟩ := U
  obtain rfl : T = (⟨U1, false, 0, 0⟩, U2) := hT.symm
  have hc : ∀ w', SepO W oo w' (cparts k S ++ frL hb k l z ⟨5, xa, xb, xc, xv⟩ an0) → Calls Tryz.prog 38 #[pt k.c, .int .i64 xa, .int .i64 xb, .int .u64 xv] w' fun e w'' => e = .returned (.int .i64 U1) ∧ ∃ A m, SepO W oo w'' (cparts (k.rw A m) U2 ++ frL hb k l z ⟨5, xa, xb, xc, xv⟩ an0) := fun w' h' => by
    have := Write_in xa xb xv hx2 (by unfold Ob.w64; omega) h'
    rw [hU] at this
    exact (this.mono fun e w'' ⟨h1, h2⟩ => ⟨h1, k.A, k.n, h2⟩)
  have HC := Lib.hid hc
  clear h hO hT hz hU hc hx1 hx2 hx3 hx4
  go_enter Tryz.func18, Tryz.ntmps18
  go_wp2_with fail
  go_region_held3 (fun w' => w'.cell? ⟨hb, 0, none⟩ = some (pt k.c) ∧ w'.cell? ⟨z, 0, none⟩ = some (i6 5) ∧ w'.cell? ⟨z, 1, none⟩ = some (i6 xa) ∧ w'.cell? ⟨z, 2, none⟩ = some (i6 xb) ∧ w'.cell? ⟨z, 3, none⟩ = some (i6 xc) ∧ w'.cell? ⟨z, 4, none⟩ = some (.int .u64 xv)) (first | exact q0 | exact f0 | exact f1 | go_keep) ((go_at_call 38; (with_reducible refine (HC.out _ ?hx).mono ?_); (case hx => first | exact HZ.out | exact HZ.out.drew | exact HZ.out.drewN _); rintro e w5 ⟨rfl, A, m, h5⟩; obtain ⟨f0, y0, y1, y2, y3, yf, yb, yz, yl⟩ := fr_at (k := k.rw A m) h5; have f1 := (fr_at (fr_put (k := k.rw A m) ⟨U1, false, 0, 0⟩ h5)).1))
  have H5 := Lib.hid h5
  clear h5 f0 f1 q0 HZ HC
  go_wp2_with fail
  obtain ⟨w9, hw9, h9, e0, e1, e2, e3⟩ := an_put (a0 := an0) ⟨U1, false, 0, 0⟩ H5.out
  rw [← hw9]
  refine bodyPost_ret (v := An.val ⟨U1, false, 0, 0⟩) (by simp [results, Tryz.results18, go_sem, e0, e1, e2, e3]) rfl ⟨rfl, A, m, c_drop (c_drop h9)⟩
set_option maxRecDepth 20000 in
set_option maxHeartbeats 8000000 in
theorem do6_in (xa xb xc xv : Int) (hx1 : I64 xa) (hx2 : I64 xb) (hx3 : I64 xc) (hx4 : 0 ≤ xv ∧ xv ≤ 18446744073709551615) (hO : Ok S) (h : SepO W oo w (cparts k S ++ (hbP hb k :: l))) : Calls Tryz.prog 18 #[pt hb, .agg #[i6 6, i6 xa, i6 xb, i6 xc, .int .u64 xv]] w fun e w' => e = .returned (pr1 (S.clearH xa)).1.val ∧ ∃ A m, SepO W oo w' (cparts (k.rw A m) (pr1 (S.clearH xa)).2 ++ (hbP hb k :: l)) := by
  obtain ⟨c0, hbl⟩ := h_at h
  obtain ⟨T, hT⟩ : ∃ T, pr1 (S.clearH xa) = T := ⟨_, rfl⟩
  rw [hT]
  obtain ⟨z, hzz, hbz, hz⟩ := fr_in ⟨6, xa, xb, xc, xv⟩ h
  have nb1 : ¬ hb = z + 1 := by omega
  have nb0 : ¬ hb = z := by omega
  have nc1 : ¬ z + 1 = hb := by omega
  have nc0 : ¬ z = hb := by omega
  simp only [] at hz
  have q0 := (fr_at hz).1
  simp only [] at q0
  have HZ := Lib.hid hz
  obtain ⟨U, hU⟩ : ∃ U, S.clearH xa = U := ⟨_, rfl⟩
  rw [hU] at hT
  obtain ⟨U1, U2⟩ := U
  obtain rfl : T = (⟨U1, false, 0, 0⟩, U2) := hT.symm
  have hc : ∀ w', SepO W oo w' (cparts k S ++ frL hb k l z ⟨6, xa, xb, xc, xv⟩ an0) → Calls Tryz.prog 39 #[pt k.c, .int .i64 xa] w' fun e w'' => e = .returned (.int .i64 U1) ∧ ∃ A m, SepO W oo w'' (cparts (k.rw A m) U2 ++ frL hb k l z ⟨6, xa, xb, xc, xv⟩ an0) := fun w' h' => by
    have := Clear_in xa h'
    rw [hU] at this
    exact (this.mono fun e w'' ⟨h1, h2⟩ => ⟨h1, k.A, k.n, h2⟩)
  have HC := Lib.hid hc
  clear h hO hT hz hU hc hx1 hx2 hx3 hx4
  go_enter Tryz.func18, Tryz.ntmps18
  go_wp2_with fail
  go_region_held3 (fun w' => w'.cell? ⟨hb, 0, none⟩ = some (pt k.c) ∧ w'.cell? ⟨z, 0, none⟩ = some (i6 6) ∧ w'.cell? ⟨z, 1, none⟩ = some (i6 xa) ∧ w'.cell? ⟨z, 2, none⟩ = some (i6 xb) ∧ w'.cell? ⟨z, 3, none⟩ = some (i6 xc) ∧ w'.cell? ⟨z, 4, none⟩ = some (.int .u64 xv)) (first | exact q0 | exact f0 | exact f1 | go_keep) ((go_at_call 39; (with_reducible refine (HC.out _ ?hx).mono ?_); (case hx => first | exact HZ.out | exact HZ.out.drew | exact HZ.out.drewN _); rintro e w5 ⟨rfl, A, m, h5⟩; obtain ⟨f0, y0, y1, y2, y3, yf, yb, yz, yl⟩ := fr_at (k := k.rw A m) h5; have f1 := (fr_at (fr_put (k := k.rw A m) ⟨U1, false, 0, 0⟩ h5)).1))
  have H5 := Lib.hid h5
  clear h5 f0 f1 q0 HZ HC
  go_wp2_with fail
  obtain ⟨w9, hw9, h9, e0, e1, e2, e3⟩ := an_put (a0 := an0) ⟨U1, false, 0, 0⟩ H5.out
  rw [← hw9]
  refine bodyPost_ret (v := An.val ⟨U1, false, 0, 0⟩) (by simp [results, Tryz.results18, go_sem, e0, e1, e2, e3]) rfl ⟨rfl, A, m, c_drop (c_drop h9)⟩
set_option maxRecDepth 20000 in
set_option maxHeartbeats 8000000 in
theorem do7_in (xa xb xc xv : Int) (hx1 : I64 xa) (hx2 : I64 xb) (hx3 : I64 xc) (hx4 : 0 ≤ xv ∧ xv ≤ 18446744073709551615) (hO : Ok S) (h : SepO W oo w (cparts k S ++ (hbP hb k :: l))) : Calls Tryz.prog 18 #[pt hb, .agg #[i6 7, i6 xa, i6 xb, i6 xc, .int .u64 xv]] w fun e w' => e = .returned (pr1 (S.copyH xa xb)).1.val ∧ ∃ A m, SepO W oo w' (cparts (k.rw A m) (pr1 (S.copyH xa xb)).2 ++ (hbP hb k :: l)) := by
  obtain ⟨c0, hbl⟩ := h_at h
  obtain ⟨T, hT⟩ : ∃ T, pr1 (S.copyH xa xb) = T := ⟨_, rfl⟩
  rw [hT]
  obtain ⟨z, hzz, hbz, hz⟩ := fr_in ⟨7, xa, xb, xc, xv⟩ h
  have nb1 : ¬ hb = z + 1 := by omega
  have nb0 : ¬ hb = z := by omega
  have nc1 : ¬ z + 1 = hb := by omega
  have nc0 : ¬ z = hb := by omega
  simp only [] at hz
  have q0 := (fr_at hz).1
  simp only [] at q0
  have HZ := Lib.hid hz
  obtain ⟨U, hU⟩ : ∃ U, S.copyH xa xb = U := ⟨_, rfl⟩
  rw [hU] at hT
  obtain ⟨U1, U2⟩ := U
  obtain rfl : T = (⟨U1, false, 0, 0⟩, U2) := hT.symm
  have hc : ∀ w', SepO W oo w' (cparts k S ++ frL hb k l z ⟨7, xa, xb, xc, xv⟩ an0) → Calls Tryz.prog 40 #[pt k.c, .int .i64 xa, .int .i64 xb] w' fun e w'' => e = .returned (.int .i64 U1) ∧ ∃ A m, SepO W oo w'' (cparts (k.rw A m) U2 ++ frL hb k l z ⟨7, xa, xb, xc, xv⟩ an0) := fun w' h' => by
    have := Copy_in xa xb h'
    rw [hU] at this
    exact (this.mono fun e w'' ⟨h1, h2⟩ => ⟨h1, k.A, k.n, h2⟩)
  have HC := Lib.hid hc
  clear h hO hT hz hU hc hx1 hx2 hx3 hx4
  go_enter Tryz.func18, Tryz.ntmps18
  go_wp2_with fail
  go_region_held3 (fun w' => w'.cell? ⟨hb, 0, none⟩ = some (pt k.c) ∧ w'.cell? ⟨z, 0, none⟩ = some (i6 7) ∧ w'.cell? ⟨z, 1, none⟩ = some (i6 xa) ∧ w'.cell? ⟨z, 2, none⟩ = some (i6 xb) ∧ w'.cell? ⟨z, 3, none⟩ = some (i6 xc) ∧ w'.cell? ⟨z, 4, none⟩ = some (.int .u64 xv)) (first | exact q0 | exact f0 | exact f1 | go_keep) ((go_at_call 40; (with_reducible refine (HC.out _ ?hx).mono ?_); (case hx => first | exact HZ.out | exact HZ.out.drew | exact HZ.out.drewN _); rintro e w5 ⟨rfl, A, m, h5⟩; obtain ⟨f0, y0, y1, y2, y3, yf, yb, yz, yl⟩ := fr_at (k := k.rw A m) h5; have f1 := (fr_at (fr_put (k := k.rw A m) ⟨U1, false, 0, 0⟩ h5)).1))
  have H5 := Lib.hid h5
  clear h5 f0 f1 q0 HZ HC
  go_wp2_with fail
  obtain ⟨w9, hw9, h9, e0, e1, e2, e3⟩ := an_put (a0 := an0) ⟨U1, false, 0, 0⟩ H5.out
  rw [← hw9]
  refine bodyPost_ret (v := An.val ⟨U1, false, 0, 0⟩) (by simp [results, Tryz.results18, go_sem, e0, e1, e2, e3]) rfl ⟨rfl, A, m, c_drop (c_drop h9)⟩
set_option maxRecDepth 20000 in
set_option maxHeartbeats 8000000 in
theorem do11_in (xa xb xc xv : Int) (hx1 : I64 xa) (hx2 : I64 xb) (hx3 : I64 xc) (hx4 : 0 ≤ xv ∧ xv ≤ 18446744073709551615) (hO : Ok S) (h : SepO W oo w (cparts k S ++ (hbP hb k :: l))) : Calls Tryz.prog 18 #[pt hb, .agg #[i6 11, i6 xa, i6 xb, i6 xc, .int .u64 xv]] w fun e w' => e = .returned (S.doIdle ⟨11, xa, xb, xc, xv⟩).1.val ∧ ∃ A m, SepO W oo w' (cparts (k.rw A m) (S.doIdle ⟨11, xa, xb, xc, xv⟩).2 ++ (hbP hb k :: l)) := by
  obtain ⟨c0, hbl⟩ := h_at h
  obtain ⟨T, hT⟩ : ∃ T, S.doIdle ⟨11, xa, xb, xc, xv⟩ = T := ⟨_, rfl⟩
  rw [hT]
  obtain ⟨z, hzz, hbz, hz⟩ := fr_in ⟨11, xa, xb, xc, xv⟩ h
  have nb1 : ¬ hb = z + 1 := by omega
  have nb0 : ¬ hb = z := by omega
  have nc1 : ¬ z + 1 = hb := by omega
  have nc0 : ¬ z = hb := by omega
  simp only [] at hz
  have q0 := (fr_at hz).1
  simp only [] at q0
  have HZ := Lib.hid hz
  have hw : (⟨11, xa, xb, xc, xv⟩ : A5).wf := ⟨⟨by simp, by simp⟩, hx1, hx2, hx3, hx4⟩
  have HW := Lib.hid hw
  have HO := Lib.hid hO
  have HT := Lib.hid hT
  clear h hO hT hz q0 hx1 hx2 hx3 hx4 hw
  go_enter Tryz.func18, Tryz.ntmps18
  go_wp2_with fail
  refine (idle_in (l := (l ++ [stP z ⟨11, xa, xb, xc, xv⟩]) ++ [anP (z + 1) an0]) ⟨11, xa, xb, xc, xv⟩ HW.out HO.out HZ.out).mono ?_
  rintro e w5 ⟨rfl, A, m, h5⟩
  rw [HT.out] at h5 ⊢
  replace h5 : SepO W oo w5 (cparts (k.rw A m) T.2 ++ frL hb k l z ⟨11, xa, xb, xc, xv⟩ an0) := h5
  obtain ⟨f0, y0, y1, y2, y3, yf, yb, yz, yl⟩ := fr_at (k := k.rw A m) h5
  have H5 := Lib.hid h5
  clear h5 f0 HZ HO HT
  obtain ⟨⟨Te, Ty, Tn, Tv⟩, U⟩ := T
  go_wp2_with fail
  obtain ⟨w9, hw9, h9, e0, e1, e2, e3⟩ := an_put (a0 := an0) ⟨Te, Ty, Tn, Tv⟩ H5.out
  rw [← hw9]
  refine bodyPost_ret (v := An.val ⟨Te, Ty, Tn, Tv⟩) (by simp [results, Tryz.results18, go_sem, e0, e1, e2, e3]) rfl ⟨rfl, A, m, c_drop (c_drop h9)⟩
set_option maxRecDepth 20000 in
set_option maxHeartbeats 8000000 in
theorem do12_in (xa xb xc xv : Int) (hx1 : I64 xa) (hx2 : I64 xb) (hx3 : I64 xc) (hx4 : 0 ≤ xv ∧ xv ≤ 18446744073709551615) (hO : Ok S) (h : SepO W oo w (cparts k S ++ (hbP hb k :: l))) : Calls Tryz.prog 18 #[pt hb, .agg #[i6 12, i6 xa, i6 xb, i6 xc, .int .u64 xv]] w fun e w' => e = .returned (S.doForce ⟨12, xa, xb, xc, xv⟩).1.val ∧ ∃ A m, SepO W oo w' (cparts (k.rw A m) (S.doForce ⟨12, xa, xb, xc, xv⟩).2 ++ (hbP hb k :: l)) := by
  obtain ⟨c0, hbl⟩ := h_at h
  obtain ⟨T, hT⟩ : ∃ T, S.doForce ⟨12, xa, xb, xc, xv⟩ = T := ⟨_, rfl⟩
  rw [hT]
  obtain ⟨z, hzz, hbz, hz⟩ := fr_in ⟨12, xa, xb, xc, xv⟩ h
  have nb1 : ¬ hb = z + 1 := by omega
  have nb0 : ¬ hb = z := by omega
  have nc1 : ¬ z + 1 = hb := by omega
  have nc0 : ¬ z = hb := by omega
  simp only [] at hz
  have q0 := (fr_at hz).1
  simp only [] at q0
  have HZ := Lib.hid hz
  have hw : (⟨12, xa, xb, xc, xv⟩ : A5).wf := ⟨⟨by simp, by simp⟩, hx1, hx2, hx3, hx4⟩
  have HW := Lib.hid hw
  have HO := Lib.hid hO
  have HT := Lib.hid hT
  clear h hO hT hz q0 hx1 hx2 hx3 hx4 hw
  go_enter Tryz.func18, Tryz.ntmps18
  go_wp2_with fail
  refine (force_in (l := (l ++ [stP z ⟨12, xa, xb, xc, xv⟩]) ++ [anP (z + 1) an0]) ⟨12, xa, xb, xc, xv⟩ HW.out HO.out HZ.out).mono ?_
  rintro e w5 ⟨rfl, A, m, h5⟩
  rw [HT.out] at h5 ⊢
  replace h5 : SepO W oo w5 (cparts (k.rw A m) T.2 ++ frL hb k l z ⟨12, xa, xb, xc, xv⟩ an0) := h5
  obtain ⟨f0, y0, y1, y2, y3, yf, yb, yz, yl⟩ := fr_at (k := k.rw A m) h5
  have H5 := Lib.hid h5
  clear h5 f0 HZ HO HT
  obtain ⟨⟨Te, Ty, Tn, Tv⟩, U⟩ := T
  go_wp2_with fail
  obtain ⟨w9, hw9, h9, e0, e1, e2, e3⟩ := an_put (a0 := an0) ⟨Te, Ty, Tn, Tv⟩ H5.out
  rw [← hw9]
  refine bodyPost_ret (v := An.val ⟨Te, Ty, Tn, Tv⟩) (by simp [results, Tryz.results18, go_sem, e0, e1, e2, e3]) rfl ⟨rfl, A, m, c_drop (c_drop h9)⟩
set_option maxRecDepth 20000 in
set_option maxHeartbeats 8000000 in
theorem doA_in (kd xa xb xc xv : Int) (hk : I64 kd) (hn : ¬ kd = 1 ∧ ¬ kd = 2 ∧ ¬ kd = 3 ∧ ¬ kd = 5 ∧ ¬ kd = 6 ∧ ¬ kd = 7 ∧ ¬ kd = 11 ∧ ¬ kd = 12) (hx1 : I64 xa) (hx2 : I64 xb) (hx3 : I64 xc) (hx4 : 0 ≤ xv ∧ xv ≤ 18446744073709551615) (hO : Ok S) (h : SepO W oo w (cparts k S ++ (hbP hb k :: l))) : Calls Tryz.prog 18 #[pt hb, .agg #[i6 kd, i6 xa, i6 xb, i6 xc, .int .u64 xv]] w fun e w' => e = .returned ((S.asks ⟨kd, xa, xb, xc, xv⟩, S)).1.val ∧ ∃ A m, SepO W oo w' (cparts (k.rw A m) ((S.asks ⟨kd, xa, xb, xc, xv⟩, S)).2 ++ (hbP hb k :: l)) := by
  obtain ⟨c0, hbl⟩ := h_at h
  obtain ⟨T, hT⟩ : ∃ T, (S.asks ⟨kd, xa, xb, xc, xv⟩, S) = T := ⟨_, rfl⟩
  rw [hT]
  obtain ⟨z, hzz, hbz, hz⟩ := fr_in ⟨kd, xa, xb, xc, xv⟩ h
  have nb1 : ¬ hb = z + 1 := by omega
  have nb0 : ¬ hb = z := by omega
  have nc1 : ¬ z + 1 = hb := by omega
  have nc0 : ¬ z = hb := by omega
  simp only [] at hz
  have q0 := (fr_at hz).1
  simp only [] at q0
  have HZ := Lib.hid hz
  have hw : (⟨kd, xa, xb, xc, xv⟩ : A5).wf := ⟨hk, hx1, hx2, hx3, hx4⟩
  have HW := Lib.hid hw
  have HO := Lib.hid hO
  have HT := Lib.hid hT
  obtain ⟨n1, n2, n3, n5, n6, n7, n11, n12⟩ := hn
  have b1 : (kd == 1) = false := by simpa using n1
  have b2 : (kd == 2) = false := by simpa using n2
  have b3 : (kd == 3) = false := by simpa using n3
  have b5 : (kd == 5) = false := by simpa using n5
  have b6 : (kd == 6) = false := by simpa using n6
  have b7 : (kd == 7) = false := by simpa using n7
  have b11 : (kd == 11) = false := by simpa using n11
  have b12 : (kd == 12) = false := by simpa using n12
  clear h hO hT hz q0 hx1 hx2 hx3 hx4 hw
  go_enter Tryz.func18, Tryz.ntmps18
  go_wp2_with fail
  refine (asks_in (l := (l ++ [stP z ⟨kd, xa, xb, xc, xv⟩]) ++ [anP (z + 1) an0]) ⟨kd, xa, xb, xc, xv⟩ HW.out HZ.out).mono ?_
  rintro e w5 ⟨rfl, h5⟩
  have hT := HT.out
  obtain ⟨T1, T2⟩ := T
  simp only [Prod.mk.injEq] at hT
  obtain ⟨hT1, rfl⟩ := hT
  rw [hT1]
  replace h5 : SepO W oo w5 (cparts k S ++ frL hb k l z ⟨kd, xa, xb, xc, xv⟩ an0) := h5
  obtain ⟨f0, y0, y1, y2, y3, yf, yb, yz, yl⟩ := fr_at h5
  have H5 := Lib.hid h5
  clear h5 f0 HZ HO HT hT1
  obtain ⟨Te, Ty, Tn, Tv⟩ := T1
  go_wp2_with fail
  obtain ⟨w9, hw9, h9, e0, e1, e2, e3⟩ := an_put (a0 := an0) ⟨Te, Ty, Tn, Tv⟩ H5.out
  rw [← hw9]
  refine bodyPost_ret (v := An.val ⟨Te, Ty, Tn, Tv⟩) (by simp [results, Tryz.results18, go_sem, e0, e1, e2, e3]) rfl ⟨rfl, k.A, k.n, c_drop (c_drop h9)⟩
/-- An entry of a script. -/
theorem Do_in (kd xa xb xc xv : Int) (hx : (⟨kd, xa, xb, xc, xv⟩ : A5).wf) (hO : Ok S) (h : SepO W oo w (cparts k S ++ (hbP hb k :: l))) : Calls Tryz.prog 18 #[pt hb, .agg #[i6 kd, i6 xa, i6 xb, i6 xc, .int .u64 xv]] w fun e w' => e = .returned (S.doS ⟨kd, xa, xb, xc, xv⟩).1.val ∧ ∃ A m, SepO W oo w' (cparts (k.rw A m) (S.doS ⟨kd, xa, xb, xc, xv⟩).2 ++ (hbP hb k :: l)) := by
  obtain ⟨x0, x1, x2, x3, x4⟩ := hx
  simp only [] at x0 x1 x2 x3 x4
  unfold CS.doS
  simp only []
  by_cases k1 : kd = 1
  · subst k1; rw [if_pos rfl]; exact do1_in xa xb xc xv x1 x2 x3 x4 hO h
  · rw [if_neg k1]
    by_cases k2 : kd = 2
    · subst k2; rw [if_pos rfl]; exact do2_in xa xb xc xv x1 x2 x3 x4 hO h
    · rw [if_neg k2]
      by_cases k3 : kd = 3
      · subst k3; rw [if_pos rfl]; exact do3_in xa xb xc xv x1 x2 x3 x4 hO h
      · rw [if_neg k3]
        by_cases k5 : kd = 5
        · subst k5; rw [if_pos rfl]; exact do5_in xa xb xc xv x1 x2 x3 x4 hO h
        · rw [if_neg k5]
          by_cases k6 : kd = 6
          · subst k6; rw [if_pos rfl]; exact do6_in xa xb xc xv x1 x2 x3 x4 hO h
          · rw [if_neg k6]
            by_cases k7 : kd = 7
            · subst k7; rw [if_pos rfl]; exact do7_in xa xb xc xv x1 x2 x3 x4 hO h
            · rw [if_neg k7]
              by_cases k11 : kd = 11
              · subst k11; rw [if_pos rfl]; exact do11_in xa xb xc xv x1 x2 x3 x4 hO h
              · rw [if_neg k11]
                by_cases k12 : kd = 12
                · subst k12; rw [if_pos rfl]; exact do12_in xa xb xc xv x1 x2 x3 x4 hO h
                · rw [if_neg k12]
                  exact doA_in kd xa xb xc xv x0 ⟨k1, k2, k3, k5, k6, k7, k11, k12⟩ x1 x2 x3 x4 hO h
end
end Go.Proofs.YtihmkkjmnbehbaaGreat.Wh
/- A heap as one part of memory: New, Do, Core; a way of small numbers. No condition. -/
set_option linter.unusedVariables false
set_option linter.unusedSimpArgs false
namespace Go.Proofs.YtihmkkjmnbehbaaGreat.Wh
open Go.RowKit Go.Proofs.YtihmkkjmnbehbaaGreat.W Go.Proofs.YtihmkkjmnbehbaaGreat.Sm
/-- A heap, whose core begins at a block. -/
def Hpp (hb kc : Nat) (S : CS) : Pr := exP fun k : CK => andP (k.c = kc) (sepP (cparts k S ++ [hbP hb k]))
section
variable {W w : World} {oo : Nat → Prop} {k : CK} {S : CS} {l L : List Pr} {F : FuncId} {args : Array Value} {hb kc : Nat} {c : CF}
theorem Do_sep (kd xa xb xc xv : Int) (hx : (⟨kd, xa, xb, xc, xv⟩ : A5).wf) (hO : Ok S) (h : SepO W oo w L) (i : Nat) (hi : L[i]? = some (Hpp hb kc S)) : Calls Tryz.prog 18 #[pt hb, .agg #[.int .i64 kd, .int .i64 xa, .int .i64 xb, .int .i64 xc, .int .u64 xv]] w fun e w' => e = .returned (S.doS ⟨kd, xa, xb, xc, xv⟩).1.val ∧ SepO W oo w' (L.set i (Hpp hb kc (S.doS ⟨kd, xa, xb, xc, xv⟩).2)) := by
  obtain ⟨o, ⟨k, hk, hsep⟩, _, hup⟩ := h.open_ i hi
  refine (Do_in (k := k) kd xa xb xc xv hx hO (SepO.enter hsep)).mono ?_
  rintro e w' ⟨rfl, A, m, h'⟩
  exact ⟨rfl, hup w' (Hpp hb kc _) ⟨k.rw A m, hk, h'.leave⟩ h'.keep0⟩
theorem Core_sep (h : SepO W oo w L) (i : Nat) (hi : L[i]? = some (Hpp hb kc S)) : Calls Tryz.prog 23 #[pt hb] w fun e w' => e = .returned (pt kc) ∧ SepO W oo w' L := by
  obtain ⟨o, ⟨k, hk, hsep⟩, _, hup⟩ := h.open_ i hi
  have hc : w.cell? ⟨hb, 0, none⟩ = some (pt kc) := by
    have := (h_at (hb := hb) (k := k) (S := S) (l := []) (SepO.enter hsep)).1
    rw [← hk]; exact this
  have H := Lib.hid h
  clear hsep h hup
  go_enter Tryz.func23, Tryz.ntmps23
  go_wp2_with fail
  go_ret
  exact ⟨rfl, H.out⟩
set_option maxHeartbeats 2000000 in
theorem hNew_sep (hc : CFmay c) (h : SepO W oo w L) : Calls Tryz.prog 16 #[.agg c.cells] w fun e w' => ∃ hb kc, e = .returned (.tuple #[pt hb, .int .i64 0]) ∧ SepO W oo w' (L ++ [Hpp hb kc (cnew c)]) := by
  have H := Lib.hid h
  have HC := Lib.hid hc
  clear h hc
  go_enter Tryz.func16, Tryz.ntmps16
  go_wp2_with fail
  refine (coreNew_l (c := c) HC.out (H.out.alloc _)).mono ?_
  rintro e w1 ⟨k, rfl, h1⟩
  have H1 := Lib.hid h1
  clear h1 H
  go_wp2_with fail
  go_ret2
  have h2 := H1.out.new_blk 82 #[pt k.c]
  rw [List.append_assoc] at h2
  have h3 := h2.pack_tail
  refine ⟨w1.heap.size, k.c, rfl, ?_⟩
  have h4 := h3.weak (Q := Hpp w1.heap.size k.c (cnew c)) L.length (by simp) (fun w o hp => ⟨k, rfl, hp⟩)
  rw [List.set_append_right _ _ (Nat.le_refl _), Nat.sub_self] at h4
  exact h4
theorem box_at' {z : Nat} (h : SepO W oo w (L ++ [blkP z 24 c.cells])) : w.cell? ⟨z, 0, none⟩ = some (i6 c.h) ∧ w.cell? ⟨z, 1, none⟩ = some (i6 c.n) ∧ w.cell? ⟨z, 2, none⟩ = some (i6 c.p) ∧ w.cell? ⟨z, 3, none⟩ = some (i6 c.w) ∧ w.cell? ⟨z, 4, none⟩ = some (i6 c.c) ∧ w.cell? ⟨z, 5, none⟩ = some (i6 c.b) ∧ w.cell? ⟨z, 6, none⟩ = some (i6 c.s) ∧ w.cell? ⟨z, 7, none⟩ = some (i6 c.t) ∧ w.cell? ⟨z, 8, none⟩ = some (i6 c.l) ∧ w.cell? ⟨z, 9, none⟩ = some (i6 c.mi) ∧ w.cell? ⟨z, 10, none⟩ = some (i6 c.ma) ∧ w.cell? ⟨z, 11, none⟩ = some (i6 c.mia) ∧ w.cell? ⟨z, 12, none⟩ = some (i6 c.maa) := box_at h
set_option maxRecDepth 20000 in
set_option maxHeartbeats 2000000 in
theorem config_l {a b d e : Int} (ha : U8 a) (hb : U8 b) (hd : U8 d) (he : U8 e) (h : SepO W oo w L) : Calls Tryz.prog 15 #[.int .u8 a, .int .u8 b, .int .u8 d, .int .u8 e] w fun e' w' => e' = .returned (.agg (cfg a b d e).cells) ∧ SepO W oo w' L := by
  have h13 := box_at' (h.new_blk 24 (cfg a b d e).cells)
  have hq : wrap64 (2 ^ (d % 3).toNat) = cdiv d := by
    unfold U8 at hd
    unfold cdiv
    have : d % 3 = 0 ∨ d % 3 = 1 ∨ d % 3 = 2 := by omega
    rcases this with e | e | e <;> rw [e] <;> simp [wrap64]
  have hq0 : ¬ cdiv d = 0 := by rcases cdiv_c d with e | e | e <;> rw [e] <;> decide
  have hp : 0 ≤ (16 + 16 * (a / 64)) / cdiv d ∧ (16 + 16 * (a / 64)) / cdiv d ≤ 64 := by
    have := card_ok (a := a) (c := d) ha
    unfold U8 at ha
    omega
  have hw : wrap64 ((16 + 16 * (a / 64)).tdiv (cdiv d)) = (16 + 16 * (a / 64)) / cdiv d := by
    unfold U8 at ha
    rw [Int.tdiv_eq_ediv_of_nonneg (by omega)]
    unfold wrap64; omega
  have H := Lib.hid h
  have HE := Lib.hid h13
  unfold U8 at ha hb hd he
  clear h h13 hp
  go_enter Tryz.func15, Tryz.ntmps15
  go_wp2_with fail
  obtain ⟨e0, e1, e2, e3, e4, e5, e6, e7, e8, e9, e10, e11, e12⟩ := HE.out
  simp only [cfg, CF.cells] at e0 e1 e2 e3 e4 e5 e6 e7 e8 e9 e10 e11 e12
  refine bodyPost_ret (v := .agg (cfg a b d e).cells) (by simp [results, Tryz.results15, go_sem, e0, e1, e2, e3, e4, e5, e6, e7, e8, e9, e10, e11, e12, cfg]) rfl ⟨rfl, H.out.alloc _⟩
end
end Go.Proofs.YtihmkkjmnbehbaaGreat.Wh
