/- Texts of the whole heap, joined: WhU WhV WhW. No condition beside those that each lemma names. -/
import Derived.Test.YtihmkkjmnbehbaaGreatMg35
/- The minor cycle begins: the walk. Condition: the heap is as it should be. -/
set_option linter.unusedVariables false
set_option linter.unusedSimpArgs false
namespace Go.Proofs.YtihmkkjmnbehbaaGreat.Wh
open Go.RowKit Go.Proofs.YtihmkkjmnbehbaaGreat.W Go.Proofs.YtihmkkjmnbehbaaGreat.Sm
theorem Ok.tb {S : CS} (h : Ok S) : TB S := by
  obtain ⟨m, R, G, h⟩ := h
  have wd := h.inv.geo.words
  intro x hx
  obtain ⟨i, hi, e⟩ := List.getElem_of_mem hx
  have := h.inv.sim.tbD i hi
  rw [List.getElem?_eq_getElem hi, e] at this
  rcases this with ⟨e, _⟩ | ⟨_, _, p, hp, _⟩
  · have e : x = 0 := e
    rw [e]; exact i0
  · have hp : m x = some p := hp
    have := h.inv.geo.rng hp; exact ⟨by omega, by omega⟩
theorem Ok.minStart {S : CS} (h : Ok S) : Ok S.minStart.2 ∧ S.minStart.2.c = S.c ∧ (S.mv = false → S.y.left ≤ 0) := by
  obtain ⟨m, R, G, h⟩ := h
  obtain ⟨m', h1, h2, _⟩ := h.minStart
  exact ⟨⟨m', R, G, h1⟩, h2, fun hm => by have := h.inv.geo.nmv hm; omega⟩
section
variable {W w : World} {oo : Nat → Prop} {k : CK} {S : CS} {l : List Pr} {F : FuncId} {args : Array Value}
theorem yFlip_in (h : SepO W oo w (cparts k S ++ l)) : Calls Tryz.prog 86 #[pt k.y] w fun e w' => e = .returned (.bool (decide (S.y.left ≤ 0))) ∧ SepO W oo w' (cparts k { S with y := S.y.flip } ++ l) := bmp_write h (fun o ho => Bp.Flip_calls w ho)
theorem rFlip_in (h : SepO W oo w (cparts k S ++ l)) : Calls Tryz.prog 87 #[pt k.r] w fun e w' => e = .returned (.bool (decide (S.r.left ≤ 0))) ∧ SepO W oo w' (cparts k { S with r := S.r.flip } ++ l) := by
  obtain ⟨o, hp, _, hup⟩ := h.open_ 4 rfl
  refine (Re.Flip_calls hp).mono ?_
  rintro e w' ⟨rfl, hr, hk⟩
  exact ⟨rfl, hup w' (Re.Rms k.r S.r.flip) hr hk⟩
theorem c_row0 (h : SepO W oo w (cparts k S ++ l)) : SepO W oo (w.setCell ⟨k.c, 25, none⟩ (.slice none 0 0)) (cparts (k.rw none 0) { S with row := [] } ++ l) := by
  obtain ⟨o, _, _, hup⟩ := h.open_ 7 rfl
  exact c_row (A := none) (n := 0) (L := []) (hup w (rowP 3 none 0 0 []) (QR.nil _ _ _) (Keep.refl _ _))
theorem yBegin_to {a b : Int} (ha : S.y.here = a) (hb : S.y.there = b) (h : SepO W oo w (cparts k S ++ l)) : Calls Tryz.prog 88 #[pt k.y] w fun e w' => e = .returned (.tuple #[.int .i64 a, .int .i64 b]) ∧ SepO W oo w' (cparts k S ++ l) := by
  subst ha hb; exact yBegin_in h
set_option maxRecDepth 20000 in
set_option maxHeartbeats 8000000 in
theorem Start_in (hO : Ok S) (h : SepO W oo w (cparts k S ++ l)) : Calls Tryz.prog 49 #[pt k.c] w fun e w' => e = .returned (.bool S.minStart.1) ∧ ∃ A m, SepO W oo w' (cparts (k.rw A m) S.minStart.2 ++ l) := by
  obtain ⟨⟨_, c14, _⟩, ⟨_, _, c21, _⟩, hbl, _⟩ := c_at h
  have htb := hO.tb
  have hlf := (hO.minStart).2.2
  have H := Lib.hid h
  obtain ⟨R, hR⟩ : ∃ R, S.minStart = R := ⟨_, rfl⟩
  rw [hR]
  cases hm : S.mv
  · have hl := hlf hm
    rw [hm] at c21
    have hd : decide (S.y.left ≤ 0) = true := by simpa using hl
    obtain ⟨S1, hS1⟩ : ∃ S1 : CS, { S with y := S.y.flip, r := S.r.flip, mv := true, cop := 0, row := [], scan := S.y.flip.here } = S1 := ⟨_, rfl⟩
    have hRe : R = (true, CS.moveT S.tb 0 S1) := by
      rw [← hR, ← hS1]; unfold CS.minStart
      rw [if_neg (by rw [hm]; simp), if_neg (by omega)]
    obtain ⟨T, hT⟩ : ∃ T, CS.moveT S.tb 0 S1 = T := ⟨_, rfl⟩
    rw [hT] at hRe
    subst hRe
    have HT := Lib.hid hT
    have HS1 := Lib.hid hS1
    have HTB := Lib.hid htb
    have htl : S.tb.length ≤ 64 := by
      obtain ⟨m, R, G, h⟩ := hO
      have := h.tbl; omega
    clear h hR hlf hO hm hT hS1 htb
    go_enter Tryz.func49, Tryz.ntmps49
    go_wp2_with fail
    refine (yFlip_in H.out).mono ?_
    rintro e w1 ⟨rfl, h1⟩
    rw [hd]
    obtain ⟨⟨_, _, _, d16, _⟩, _, dbl, _⟩ := c_at h1
    have H1 := Lib.hid h1
    clear h1 H c14 c21 hbl
    go_wp2_with fail
    refine (rFlip_in H1.out).mono ?_
    rintro e w2 ⟨rfl, h2⟩
    obtain ⟨_, _, ebl, efr⟩ := c_at h2
    have f21 := efr 21
    have f23 := efr 23
    have f25 := efr 25
    have h3 := c_row0 (c_cop 0 (c_mv true h2))
    obtain ⟨⟨_, g14, _⟩, _, gbl, gfr⟩ := c_at h3
    have gf22 := gfr 22
    replace g14 := g14
    have H3 := Lib.hid h3
    clear h2 h3 H1 d16 efr gfr
    go_wp2_with fail
    refine (yBegin_to (a := S.y.flip.here) (b := S.y.flip.there) rfl rfl H3.out).mono ?_
    rintro e w4 ⟨rfl, h4⟩
    obtain ⟨⟨_, _, _, _, _, m18⟩, ⟨_, _, _, m22, _⟩, hbl4, gfr⟩ := c_at h4
    replace m18 : w4.cell? ⟨k.c, 18, none⟩ = some (pt k.t) := m18
    replace m22 : w4.cell? ⟨k.c, 22, none⟩ = some (i6 S.scan) := m22
    have gf22 : w4.frozen? ⟨k.c, 22, none⟩ = false := gfr 22
    replace hbl4 : k.c < w4.heap.size := hbl4
    have h5 := c_scan S.y.flip.here h4
    have h5 : SepO W oo (w4.setCell ⟨k.c, 22, none⟩ (i6 S.y.flip.here)) (cparts (k.rw none 0) S1 ++ l) := by rw [← HS1.out]; exact h5
    have tbe : S1.tb = S.tb := by rw [← HS1.out]
    have rwe : S1.row.length = 0 := by rw [← HS1.out]; rfl
    have H5 := Lib.hid h5
    clear h4 h5 H3 gfr
    go_wp2_with fail
    refine (tAll_in H5.out).mono ?_
    rintro e w6 ⟨A1, rfl, h6⟩
    rw [tbe] at h6 ⊢
    have H6 := Lib.hid h6
    clear h6 H5 tbe m18 m22
    go_wp2_with fail
    go_loopg [3, 4, 52] S.tb.length (fun gk s3 s4 n52 wr => ∃ (j : Nat) (S' : CS) (A : Option Addr) (m : Nat), j + gk = S.tb.length ∧ n52 = .int .i64 j ∧ CS.moveT (S.tb.drop j) j S' = T ∧ S'.row.length ≤ j ∧ SepO W oo wr (cparts (k.rw A m) S' ++ (l ++ [SLp (.slice A1 S.tb.length S.tb.length) S.tb])))
    case atStart => exact ⟨0, S1, none, 0, by omega, rfl, HT.out, by omega, H6.out⟩
    case round =>
      clear H6 HT
      obtain ⟨j, S', A, m, hj, rfl, ht, hrow, h⟩ := hrel
      have HJ := Lib.hid hj
      have hjL : j ≤ S.tb.length := by omega
      clear hj
      by_cases hlt : j < S.tb.length
      · obtain ⟨x, hx⟩ : ∃ x, S.tb[j] = x := ⟨_, rfl⟩
        have hxb : I64 x := hx ▸ HTB.out _ (List.getElem_mem hlt)
        obtain ⟨G, off, rfl, y0⟩ := slp_at h (8 + l.length) c_last hlt
        rw [hx] at y0
        rw [List.drop_eq_getElem_cons hlt, hx] at ht
        unfold CS.moveT at ht
        have hrb2 : RB 1000000000 S' := by unfold RB; omega
        have hmr := move_row S' x
        obtain ⟨M, hM⟩ : ∃ M, S'.move x = M := ⟨_, rfl⟩
        rw [hM] at ht hmr
        obtain ⟨M1, M2⟩ := M
        simp only [] at ht hmr
        have hc1 : ∀ w', SepO W oo w' (cparts (k.rw A m) S' ++ (l ++ [SLp (.slice (some ⟨G, off, none⟩) S.tb.length S.tb.length) S.tb])) → Calls Tryz.prog 73 #[pt k.c, .int .i64 x] w' fun e w'' => e = .returned (.int .i64 M1) ∧ ∃ A2 m2, SepO W oo w'' (cparts (k.rw A2 m2) M2 ++ (l ++ [SLp (.slice (some ⟨G, off, none⟩) S.tb.length S.tb.length) S.tb])) := fun w' h' => by
          have := Move_in (k := k.rw A m) x hxb hrb2 h'
          rw [hM] at this
          exact this
        have HC1 := Lib.hid hc1
        have hc2 : ∀ A2 m2 w', SepO W oo w' (cparts (k.rw A2 m2) M2 ++ (l ++ [SLp (.slice (some ⟨G, off, none⟩) S.tb.length S.tb.length) S.tb])) → Calls Tryz.prog 75 #[pt k.t, .int .i64 j, .int .i64 M1] w' fun e w'' => e = .returned (.int .i64 (Tab.setE M2.tb j)) ∧ SepO W oo w'' (cparts (k.rw A2 m2) (M2.set j M1) ++ (l ++ [SLp (.slice (some ⟨G, off, none⟩) S.tb.length S.tb.length) S.tb])) := fun A2 m2 w' h' => TSet_in (k := k.rw A2 m2) j M1 h'
        have HC2 := Lib.hid hc2
        obtain ⟨⟨_, _, _, _, _, c18⟩, _, cbl, _⟩ := c_at h
        replace c18 : wr.cell? ⟨k.c, 18, none⟩ = some (pt k.t) := c18
        replace cbl : k.c < wr.heap.size := cbl
        have HT := Lib.hid ht
        have HS := Lib.hid h
        clear h ht hM hx hc1 hc2
        go_wp2_with fail
        go_region_held3 (fun w' => w'.cell? ⟨k.c, 18, none⟩ = some (pt k.t)) (first | exact c18 | exact f18 | exact g18 | go_keep) ((first | (go_at_call 73; (with_reducible refine (HC1.out _ ?hx).mono ?_); (case hx => exact HS.out.drewN _); rintro e w7 ⟨rfl, A2, m2, h7⟩; have f18 : w7.cell? ⟨k.c, 18, none⟩ = some (pt k.t) := (c_at h7).1.2.2.2.2.2) | (go_at_call 75; (with_reducible refine (HC2.out A2 m2 _ (by first | exact h7 | exact h7.drewN _)).mono ?_); rintro e w8 ⟨rfl, h8⟩; have g18 : w8.cell? ⟨k.c, 18, none⟩ = some (pt k.t) := (c_at h8).1.2.2.2.2.2)))
        have H8 := Lib.hid h8
        clear h8 h7 HS HC1 HC2
        go_wp2_with fail
        go_roundg (gk - 1)
        case measure => have := HJ.out; omega
        case rel => exact ⟨j + 1, M2.set j M1, A2, m2, by have := HJ.out; omega, by go_num, HT.out, by show M2.row.length ≤ j + 1; omega, H8.out⟩
      · have hj2 : j = S.tb.length := by omega
        rw [hj2, List.drop_length] at ht
        have ht' : S' = T := ht
        subst ht'
        have H1 := Lib.hid h
        clear h ht hj2
        go_wp2_with fail
        go_ret
        exact ⟨rfl, _, _, c_drop H1.out⟩
  · rw [hm] at c21
    obtain rfl : R = (false, S) := by rw [← hR]; unfold CS.minStart; rw [if_pos hm]
    clear h hR hlf hO htb
    go_enter Tryz.func49, Tryz.ntmps49
    go_wp2_with fail
    go_ret
    exact ⟨rfl, _, _, H.out⟩
end
end Go.Proofs.YtihmkkjmnbehbaaGreat.Wh
/- What the major cycle does to one object, and how it begins: the walks. Condition: the heap is as it should be. -/
set_option linter.unusedVariables false
set_option linter.unusedSimpArgs false
namespace Go.Proofs.YtihmkkjmnbehbaaGreat.Wh
open Go.RowKit Go.Proofs.YtihmkkjmnbehbaaGreat.W Go.Proofs.YtihmkkjmnbehbaaGreat.Sm
section
variable {W w : World} {oo : Nat → Prop} {k : CK} {S : CS} {l : List Pr} {F : FuncId} {args : Array Value}
theorem Words_l (x : Hd) {L : List Pr} (h : SepO W oo w L) : Calls Tryz.prog 111 #[.agg x.cells] w fun e w' => e = .returned (.int .i64 (Ob.wordsOf x)) ∧ SepO W oo w' L :=
  (Ob.Words_calls x w).mono fun e w' ⟨he, hk⟩ => ⟨he, h.stay hk⟩
set_option maxHeartbeats 4000000 in
theorem mthrough_in (a : Int) (ha : I64 a) (h : SepO W oo w (cparts k S ++ l)) : Calls Tryz.prog 144 #[pt k.c, .int .i64 a] w fun e w' => e = .returned (.int .i64 (S.mthrough a).1) ∧ SepO W oo w' (cparts k (S.mthrough a).2 ++ l) := by
  have H := Lib.hid h
  have hbl := (c_at h).2.2.1
  obtain ⟨b0, b1, b2, b3, _⟩ := hd_b S a
  obtain ⟨X, hX⟩ : ∃ X, S.hd a = X := ⟨_, rfl⟩
  rw [hX] at b0 b1 b2 b3
  obtain ⟨wd, hwd⟩ : ∃ wd, Ob.wordsOf X = wd := ⟨_, rfl⟩
  obtain ⟨T, hT⟩ : ∃ T, CS.markF a X.ptrs.toNat 0 (S.setHd a { X with grey := false }) = T := ⟨_, rfl⟩
  have hR : S.mthrough a = if X.grey = false then (1, S) else (wd, T) := by unfold CS.mthrough; simp only [hX, hwd, hT]
  rw [hR]
  have HX := Lib.hid hX
  have HT := Lib.hid hT
  obtain ⟨q0, q1, q2, q3, q4, q5, q6⟩ := X
  simp only [] at b0 b1 b2 b3
  obtain ⟨N, rfl⟩ : ∃ N : Nat, q1 = N := ⟨q1.toNat, by omega⟩
  have hwd2 : Ob.wordsOf ⟨q0, N, q2, q3, false, q5, q6⟩ = wd := by rw [← hwd]; rfl
  have HW := Lib.hid hwd2
  cases q4
  · rw [if_pos rfl]
    clear h hX hwd hwd2 hT hR
    go_enter Tryz.func144, Tryz.ntmps144
    go_wp2_with fail
    refine (Head_in a H.out).mono ?_
    rintro e w1 ⟨rfl, h1⟩
    rw [HX.out]
    simp only [Hea.Hd.cells]
    have H1 := Lib.hid h1
    clear h1 H
    go_wp2_with fail
    go_ret
    exact ⟨rfl, H1.out.alloc _⟩
  · rw [if_neg (by simp)]
    clear h hX hwd hwd2 hT hR
    go_enter Tryz.func144, Tryz.ntmps144
    go_wp2_with fail
    refine (Head_in a H.out).mono ?_
    rintro e w1 ⟨rfl, h1⟩
    rw [HX.out]
    simp only [Hea.Hd.cells]
    obtain ⟨z, hzz⟩ : ∃ z, w1.heap.size = z := ⟨_, rfl⟩
    have hz := c_add h1 99 #[i6 q0, i6 (N : Int), i6 q2, i6 q3, .bool false, .bool q5, .bool q6]
    rw [hzz] at hz
    have HZ := Lib.hid hz
    clear h1 hz H
    go_wp2_with fail
    refine (SetHead_in a ⟨q0, N, q2, q3, false, q5, q6⟩ HZ.out).mono ?_
    rintro e w2 ⟨rfl, h2⟩
    have zb := SepO.blk h2 (8 + l.length) c_last
    have z0 := zb.cell 0
    have z1 := zb.cell 1
    have z2 := zb.cell 2
    have z3 := zb.cell 3
    have z4 := zb.cell 4
    have z5 := zb.cell 5
    have z6 := zb.cell 6
    simp at z0 z1 z2 z3 z4 z5 z6
    have zl := zb.lt
    have H2 := Lib.hid h2
    clear h2 HZ zb hzz
    go_wp2_with fail
    go_loopg [6, 20] N (fun gk s6 n20 wr => ∃ (n : Nat) (S' : CS), n + gk = N ∧ n20 = .int .i64 n ∧ CS.markF a gk n S' = T ∧ SepO W oo wr (cparts k S' ++ (l ++ [blkP z 99 #[i6 q0, i6 (N : Int), i6 q2, i6 q3, .bool false, .bool q5, .bool q6]])))
    case atStart => exact ⟨0, _, by omega, rfl, by have := HT.out; simpa using this, H2.out⟩
    case round =>
      clear H2 HT z0 z1 z2 z3 z4 z5 z6 zl
      obtain ⟨n, S', hn, rfl, ht, h⟩ := hrel
      have HN := Lib.hid hn
      have hnN : n ≤ N := by omega
      by_cases hlt : n < N
      · obtain ⟨g, hg⟩ : ∃ g, gk = g + 1 := ⟨gk - 1, by omega⟩
        rw [hg] at ht
        unfold CS.markF at ht
        have hrf := ref_b S' a n
        obtain ⟨x, hx⟩ : ∃ x, S'.ref a n = x := ⟨_, rfl⟩
        rw [hx] at hrf ht
        have HX2 := Lib.hid hx
        have HT := Lib.hid ht
        have HG := Lib.hid hg
        have HS := Lib.hid h
        clear h hx ht hg hn
        go_wp2_with fail
        refine (Ref_in a n HS.out).mono ?_
        rintro e w3 ⟨rfl, h3⟩
        rw [HX2.out]
        have H3 := Lib.hid h3
        clear h3 HS
        go_wp2_with fail
        refine (Mark_in x hrf H3.out).mono ?_
        rintro e w4 ⟨rfl, h4⟩
        have H4 := Lib.hid h4
        clear h4 H3
        go_wp2_with fail
        go_roundg g
        case measure => have := HG.out; omega
        case rel => exact ⟨n + 1, S'.mark x, by have := HN.out; have := HG.out; omega, by go_num, HT.out, H4.out⟩
      · have hg0 : gk = 0 := by omega
        rw [hg0] at ht
        have ht' : S' = T := ht
        subst ht'
        have zb := SepO.blk h (8 + l.length) c_last
        have z0 := zb.cell 0
        have z1 := zb.cell 1
        have z2 := zb.cell 2
        have z3 := zb.cell 3
        have z4 := zb.cell 4
        have z5 := zb.cell 5
        have z6 := zb.cell 6
        simp at z0 z1 z2 z3 z4 z5 z6
        have zl := zb.lt
        have H1 := Lib.hid h
        clear h ht hg0 hn zb
        go_wp2_with fail
        refine (Words_l ⟨q0, N, q2, q3, false, q5, q6⟩ H1.out).mono ?_
        rintro e w5 ⟨rfl, h5⟩
        rw [HW.out]
        have H5 := Lib.hid h5
        clear h5 H1
        go_wp2_with fail
        go_ret
        exact ⟨rfl, c_drop H5.out⟩
set_option maxHeartbeats 4000000 in
theorem majStart_in (hO : Ok S) (h : SepO W oo w (cparts k S ++ l)) : Calls Tryz.prog 47 #[pt k.c] w fun e w' => e = .returned (.bool S.majStart.1) ∧ SepO W oo w' (cparts k S.majStart.2 ++ l) := by
  obtain ⟨⟨_, _, _, _, _, c18⟩, ⟨c19, c20, _, _, _, c24, _⟩, hbl, hfr⟩ := c_at h
  have f19 := hfr 19
  have f20 := hfr 20
  have f24 := hfr 24
  have htb := hO.tb
  have htl : S.tb.length ≤ 64 := by obtain ⟨m, R, G, h⟩ := hO; have := h.tbl; omega
  have hp : S.par = 0 ∨ S.par = 1 := by obtain ⟨m, R, G, h⟩ := hO; exact h.inv.mks.p01
  have H := Lib.hid h
  obtain ⟨R, hR⟩ : ∃ R, S.majStart = R := ⟨_, rfl⟩
  rw [hR]
  by_cases h0 : S.ph = 0
  · have ew : wrap64 (1 - S.par) = 1 - S.par := by unfold wrap64; omega
    obtain ⟨S1, hS1⟩ : ∃ S1 : CS, { S with ph := 1, par := 1 - S.par, look := -1 } = S1 := ⟨_, rfl⟩
    obtain ⟨T, hT⟩ : ∃ T, CS.markL S.tb S1 = T := ⟨_, rfl⟩
    obtain rfl : R = (true, T) := by rw [← hR]; unfold CS.majStart; rw [if_neg (fun hh => hh h0), ew, hS1, hT]
    have h0b : (S.ph != 0) = false := by simpa using h0
    have hm := c_look (-1) (c_par (1 - S.par) (c_ph 1 h))
    replace hm : SepO W oo (((w.setCell ⟨k.c, 20, none⟩ (i6 1)).setCell ⟨k.c, 19, none⟩ (i6 (1 - S.par))).setCell ⟨k.c, 24, none⟩ (i6 (-1))) (cparts k S1 ++ l) := by rw [← hS1]; exact hm
    have tbe : S1.tb = S.tb := by rw [← hS1]
    have HM := Lib.hid hm
    have HT := Lib.hid hT
    have HTB := Lib.hid htb
    clear h hR hO htb hfr hS1 hT hm H ew
    go_enter Tryz.func47, Tryz.ntmps47
    go_wp2_with fail
    refine (tAll_in HM.out).mono ?_
    rintro e w6 ⟨A1, rfl, h6⟩
    rw [tbe] at h6 ⊢
    have H6 := Lib.hid h6
    clear h6 HM tbe
    go_wp2_with fail
    go_loopg [4, 34] S.tb.length (fun gk s4 n34 wr => ∃ (j : Nat) (S' : CS), j + gk = S.tb.length ∧ n34 = .int .i64 j ∧ CS.markL (S.tb.drop j) S' = T ∧ SepO W oo wr (cparts k S' ++ (l ++ [SLp (.slice A1 S.tb.length S.tb.length) S.tb])))
    case atStart => exact ⟨0, S1, by omega, rfl, HT.out, H6.out⟩
    case round =>
      clear H6 HT
      obtain ⟨j, S', hj, rfl, ht, h⟩ := hrel
      have HJ := Lib.hid hj
      have hjL : j ≤ S.tb.length := by omega
      clear hj
      by_cases hlt : j < S.tb.length
      · obtain ⟨x, hx⟩ : ∃ x, S.tb[j] = x := ⟨_, rfl⟩
        have hxb : I64 x := hx ▸ HTB.out _ (List.getElem_mem hlt)
        obtain ⟨G, off, rfl, y0⟩ := slp_at h (8 + l.length) c_last hlt
        rw [hx] at y0
        rw [List.drop_eq_getElem_cons hlt, hx] at ht
        unfold CS.markL at ht
        have HT := Lib.hid ht
        have HS := Lib.hid h
        clear h ht hx
        go_wp2_with fail
        refine (Mark_in x hxb HS.out).mono ?_
        rintro e w7 ⟨rfl, h7⟩
        have H7 := Lib.hid h7
        clear h7 HS
        go_wp2_with fail
        go_roundg (gk - 1)
        case measure => have := HJ.out; omega
        case rel => exact ⟨j + 1, S'.mark x, by have := HJ.out; omega, by go_num, HT.out, H7.out⟩
      · have hj2 : j = S.tb.length := by omega
        rw [hj2, List.drop_length] at ht
        have ht' : S' = T := ht
        subst ht'
        have H1 := Lib.hid h
        clear h ht hj2
        go_wp2_with fail
        go_ret
        exact ⟨rfl, c_drop H1.out⟩
  · have h0b : (S.ph != 0) = true := by simpa using h0
    obtain rfl : R = (false, S) := by rw [← hR]; unfold CS.majStart; rw [if_pos h0]
    clear h hR hO htb hfr
    go_enter Tryz.func47, Tryz.ntmps47
    go_wp2_with fail
    go_ret
    exact ⟨rfl, H.out⟩
end
end Go.Proofs.YtihmkkjmnbehbaaGreat.Wh
/- Lost ones of a half of the nursery: the walk. No condition but sizes. -/
set_option linter.unusedVariables false
set_option linter.unusedSimpArgs false
namespace Go.Proofs.YtihmkkjmnbehbaaGreat.Wh
open Go.RowKit Go.Proofs.YtihmkkjmnbehbaaGreat.W Go.Proofs.YtihmkkjmnbehbaaGreat.Sm
theorem mthrough_b (S : CS) (a : Int) : 1 ≤ (S.mthrough a).1 ∧ (S.mthrough a).1 ≤ 66 := by
  unfold CS.mthrough
  have := words_b (S.hd a)
  simp only []
  split
  · simp
  · simp only []; omega
section
variable {W w : World} {oo : Nat → Prop} {k : CK} {S : CS} {l : List Pr} {F : FuncId} {args : Array Value}
set_option maxRecDepth 20000 in
set_option maxHeartbeats 8000000 in
theorem half_in (f u : Int) (hf : 0 ≤ f ∧ f ≤ 2097152) (hu : 0 ≤ u ∧ u ≤ 1048576) (h : SepO W oo w (cparts k S ++ l)) : Calls Tryz.prog 174 #[pt k.c, .int .i64 f, .int .i64 u] w fun e w' => e = .returned (.int .i64 (CS.half (f + u) (f + u - f).toNat f 0 S).1) ∧ SepO W oo w' (cparts k (CS.half (f + u) (f + u - f).toNat f 0 S).2 ++ l) := by
  have H := Lib.hid h
  have hbl := (c_at h).2.2.1
  obtain ⟨R, hR⟩ : ∃ R, CS.half (f + u) (f + u - f).toNat f 0 S = R := ⟨_, rfl⟩
  rw [hR]
  obtain ⟨hf0, hf1⟩ := hf
  obtain ⟨hu0, hu1⟩ := hu
  obtain ⟨e, he⟩ : ∃ e, f + u = e := ⟨_, rfl⟩
  rw [he] at hR
  have hwe : wrap64 (f + u) = e := by unfold wrap64; omega
  have HR := Lib.hid hR
  clear h hR
  go_enter Tryz.func174, Tryz.ntmps174
  go_wp2_with fail
  go_loopg [7, 8, 9] (e - f).toNat (fun gk n7 n8 s9 wr => ∃ (d a : Int) (S' : CS), n7 = .int .i64 d ∧ n8 = .int .i64 a ∧ f ≤ a ∧ a ≤ e + 66 ∧ 0 ≤ d ∧ d ≤ 67 * (a - f) ∧ e - a ≤ gk ∧ CS.half e gk a d S' = R ∧ SepO W oo wr (cparts k S' ++ l))
  case atStart => exact ⟨0, f, S, rfl, rfl, by omega, by omega, by omega, by omega, by omega, HR.out, H.out⟩
  case round =>
    clear H HR
    obtain ⟨d, a, S', rfl, rfl, ha0, ha1, hd0, hd1, hgk, ht, h⟩ := hrel
    by_cases hlt : a < e
    · obtain ⟨g, hg⟩ : ∃ g, gk = g + 1 := ⟨gk - 1, by omega⟩
      rw [hg] at ht hgk
      unfold CS.half at ht
      rw [if_pos hlt] at ht
      obtain ⟨X, hX⟩ : ∃ X, S'.hd a = X := ⟨_, rfl⟩
      obtain ⟨q, hq⟩ : ∃ q, S'.now a = q := ⟨_, rfl⟩
      obtain ⟨M, hM⟩ : ∃ M, S'.mthrough a = M := ⟨_, rfl⟩
      have hmb := mthrough_b S' a
      obtain ⟨wd, hwd⟩ : ∃ wd, Ob.wordsOf X = wd := ⟨_, rfl⟩
      have hwb := words_b X
      rw [hwd] at hwb
      rw [hM] at hmb
      simp only [hX, hq, hM, hwd] at ht
      have iaa : I64 a := ⟨by omega, by omega⟩
      obtain ⟨q0, q1, q2, q3, q4, q5, q6⟩ := X
      simp only [] at ht
      have HX := Lib.hid hX
      have HQ := Lib.hid hq
      have HM := Lib.hid hM
      have HW := Lib.hid hwd
      have HG := Lib.hid hg
      have HT := Lib.hid ht
      have HS := Lib.hid h
      have hbl2 := (c_at h).2.2.1
      have hwa : wrap64 (a + wd) = a + wd := by unfold wrap64; omega
      obtain ⟨M1, M2⟩ := M
      simp only [] at hmb
      have hw1 : wrap64 (d + M1) = d + M1 := by unfold wrap64; omega
      have hw2 : wrap64 (d + M1 + 1) = d + M1 + 1 := by unfold wrap64; omega
      have hw3 : wrap64 (d + 1) = d + 1 := by unfold wrap64; omega
      clear h ht hX hq hM hwd hg
      go_wp2_with fail
      refine (Head_in a HS.out).mono ?_
      rintro e1 w1 ⟨rfl, h1⟩
      rw [HX.out]
      simp only [Hea.Hd.cells]
      obtain ⟨z, hzz⟩ : ∃ z, w1.heap.size = z := ⟨_, rfl⟩
      have hz := c_add h1 99 #[i6 q0, i6 q1, i6 q2, i6 q3, .bool q4, .bool q5, .bool q6]
      rw [hzz] at hz
      have HZ := Lib.hid hz
      clear h1 hz HS
      go_wp2_with fail
      refine (Now_in a iaa HZ.out).mono ?_
      rintro e2 w2 ⟨rfl, h2⟩
      rw [HQ.out]
      have zb := SepO.blk h2 (8 + l.length) c_last
      have z0 := zb.cell 0
      have z1 := zb.cell 1
      have z2 := zb.cell 2
      have z3 := zb.cell 3
      have z4 := zb.cell 4
      have z5 := zb.cell 5
      have z6 := zb.cell 6
      simp at z0 z1 z2 z3 z4 z5 z6
      have zl := zb.lt
      have H2 := Lib.hid h2
      clear h2 HZ zb hzz
      by_cases hh : q = a ∧ q4 = true
      · obtain ⟨rfl, rfl⟩ := hh
        have hnx : CS.half e g (q + wd) (d + M1 + 1) M2 = R := by have := HT.out; simpa using this
        have HNX := Lib.hid hnx
        clear hnx HT
        go_wp2_with fail
        refine (mthrough_in q iaa H2.out).mono ?_
        rintro e3 w3 ⟨rfl, h3⟩
        rw [HM.out] at h3 ⊢
        simp only [] at h3 ⊢
        have zb := SepO.blk h3 (8 + l.length) c_last
        have y0 := zb.cell 0
        have y1 := zb.cell 1
        have y2 := zb.cell 2
        have y3 := zb.cell 3
        have y4 := zb.cell 4
        have y5 := zb.cell 5
        have y6 := zb.cell 6
        simp at y0 y1 y2 y3 y4 y5 y6
        have zl3 := zb.lt
        have H3 := Lib.hid h3
        clear h3 H2 zb z0 z1 z2 z3 z4 z5 z6 zl
        go_wp2_with fail
        refine (Words_l ⟨q0, q1, q2, q3, true, q5, q6⟩ H3.out).mono ?_
        rintro e4 w4 ⟨rfl, h4⟩
        rw [HW.out]
        have H4 := Lib.hid (c_drop h4)
        clear h4 H3
        go_wp2_with fail
        go_roundg g
        case measure => have := HG.out; omega
        case rel => exact ⟨d + M1 + 1, q + wd, M2, by first | rfl | rw [hw1, hw2], by first | rfl | rw [hwa], by omega, by omega, by omega, by omega, by omega, HNX.out, H4.out⟩
      · have hnx : CS.half e g (a + wd) (d + 1) S' = R := by have := HT.out; rw [if_neg hh] at this; exact this
        have HNX := Lib.hid hnx
        clear hnx HT
        have arm : ∀ w3, SepO W oo w3 (cparts k S' ++ (l ++ [blkP z 99 #[i6 q0, i6 q1, i6 q2, i6 q3, .bool q4, .bool q5, .bool q6]])) → Calls Tryz.prog 111 #[.agg #[i6 q0, i6 q1, i6 q2, i6 q3, .bool q4, .bool q5, .bool q6]] w3 fun e w' => e = .returned (.int .i64 wd) ∧ SepO W oo w' (cparts k S' ++ l) := fun w3 h3 => by
          have := Words_l ⟨q0, q1, q2, q3, q4, q5, q6⟩ h3
          rw [HW.out] at this
          exact this.mono fun e w' ⟨a, b⟩ => ⟨a, c_drop b⟩
        have HA := Lib.hid arm
        clear arm
        have hor : q ≠ a ∨ q4 = false := by
          by_cases e : q = a
          · right; cases h4 : q4 with
            | false => rfl
            | true => exact (hh ⟨e, h4⟩).elim
          · exact .inl e
        rcases hor with hqa | rfl
        · have hqb : (q == a) = false := beq_false_of_ne hqa
          go_wp2_with fail
          refine (HA.out _ H2.out).mono ?_
          rintro e4 w4 ⟨rfl, h4⟩
          have H4 := Lib.hid h4
          clear h4 H2
          go_wp2_with fail
          go_roundg g
          case measure => have := HG.out; omega
          case rel => exact ⟨d + 1, a + wd, S', by first | rfl | rw [hw3], by first | rfl | rw [hwa], by omega, by omega, by omega, by omega, by omega, HNX.out, H4.out⟩
        · by_cases hqa : q = a
          · subst hqa
            go_wp2_with fail
            refine (HA.out _ H2.out).mono ?_
            rintro e4 w4 ⟨rfl, h4⟩
            have H4 := Lib.hid h4
            clear h4 H2
            go_wp2_with fail
            go_roundg g
            case measure => have := HG.out; omega
            case rel => exact ⟨d + 1, q + wd, S', by first | rfl | rw [hw3], by first | rfl | rw [hwa], by omega, by omega, by omega, by omega, by omega, HNX.out, H4.out⟩
          · have hqb : (q == a) = false := beq_false_of_ne hqa
            go_wp2_with fail
            refine (HA.out _ H2.out).mono ?_
            rintro e4 w4 ⟨rfl, h4⟩
            have H4 := Lib.hid h4
            clear h4 H2
            go_wp2_with fail
            go_roundg g
            case measure => have := HG.out; omega
            case rel => exact ⟨d + 1, a + wd, S', by first | rfl | rw [hw3], by first | rfl | rw [hwa], by omega, by omega, by omega, by omega, by omega, HNX.out, H4.out⟩
    · have hRe : R = (d, S') := by
        rw [← ht]
        cases gk with
        | zero => rfl
        | succ g => unfold CS.half; rw [if_neg hlt]
      subst hRe
      have H1 := Lib.hid h
      clear h ht
      go_wp2_with fail
      go_ret
      exact ⟨rfl, H1.out⟩
end
end Go.Proofs.YtihmkkjmnbehbaaGreat.Wh
