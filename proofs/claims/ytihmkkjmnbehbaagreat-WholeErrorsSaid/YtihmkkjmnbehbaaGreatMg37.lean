/- Texts of the whole heap, joined: WhX WhY WhZ WiA WiB. No condition beside those that each lemma names. -/
import Derived.Test.YtihmkkjmnbehbaaGreatMg36
/- Lost ones of a page, and of the nursery: the walks. Condition: the heap is as it should be. -/
set_option linter.unusedVariables false
set_option linter.unusedSimpArgs false
namespace Go.Proofs.YtihmkkjmnbehbaaGreat.Wh
open Go.RowKit Go.Proofs.YtihmkkjmnbehbaaGreat.W Go.Proofs.YtihmkkjmnbehbaaGreat.Sm
section
variable {W w : World} {oo : Nat → Prop} {k : CK} {S : CS} {l : List Pr} {F : FuncId} {args : Array Value}
theorem oPage_in (x : Int) (h : SepO W oo w (cparts k S ++ l)) : Calls Tryz.prog 150 #[pt k.o, .int .i64 x] w fun e w' => e = .returned (.tuple #[.int .i64 (pgF S.o x), .int .i64 (pgT S.o x)]) ∧ SepO W oo w' (cparts k S ++ l) := Ma.Page_sep x h 3 rfl
theorem field_grey (q0 q1 q2 q3 : Value) (q4 q5 q6 : Value) (W : World) : (Instr.field 99 (.agg #[q0, q1, q2, q3, q4, q5, q6]) 4).run Tryz.prog W = .ok q4 W := by kernel_rfl
theorem field_par (q0 q1 q2 q3 : Value) (q4 q5 q6 : Value) (W : World) : (Instr.field 99 (.agg #[q0, q1, q2, q3, q4, q5, q6]) 3).run Tryz.prog W = .ok q3 W := by kernel_rfl
set_option maxRecDepth 20000 in
set_option maxHeartbeats 8000000 in
theorem page_in (hO : Ok S) (h0 : 0 ≤ S.look) (h : SepO W oo w (cparts k S ++ l)) : Calls Tryz.prog 145 #[pt k.c] w fun e w' => e = .returned (.int .i64 S.page.1) ∧ SepO W oo w' (cparts k S.page.2 ++ l) := by
  obtain ⟨⟨_, _, c15, _⟩, ⟨_, _, _, _, _, c24, _⟩, hbl, hfr⟩ := c_at h
  have hok := o_ok h
  have lk1 : S.look ≤ 64 := by obtain ⟨m, R, G, h⟩ := hO; exact h.inv.mks.lk.2
  have H := Lib.hid h
  obtain ⟨pf, hpf⟩ : ∃ x, pgF S.o S.look = x := ⟨_, rfl⟩
  obtain ⟨pe, hpe⟩ : ∃ x, pgT S.o S.look = x := ⟨_, rfl⟩
  obtain ⟨L, hL⟩ : ∃ L, Ma.stL S.o.f S.o.w pf pe S.o.l 0 = L := ⟨_, rfl⟩
  obtain ⟨T, hT⟩ : ∃ T, CS.pageL L 1 S = T := ⟨_, rfl⟩
  have hR : S.page = (T.1, { T.2 with look := if T.2.c.p ≤ T.2.look + 1 then -1 else T.2.look + 1 }) := by unfold CS.page; simp only [hpf, hpe, hL, hT]
  rw [hR]
  have hLb : ∀ x, x ∈ L → I64 x := fun x hx => starts_b hok (by rw [hL]; exact hx)
  have hLl : L.length ≤ 16384 := by rw [← hL]; exact Ma.starts_len hok pf pe
  have hc : ∀ w', SepO W oo w' (cparts k S ++ l) → Calls Tryz.prog 150 #[pt k.o, .int .i64 S.look] w' fun e w'' => e = .returned (.tuple #[.int .i64 pf, .int .i64 pe]) ∧ SepO W oo w'' (cparts k S ++ l) := fun w' h' => by rw [← hpf, ← hpe]; exact oPage_in _ h'
  have HC := Lib.hid hc
  have HLB := Lib.hid hLb
  have HSL := Lib.hid hL
  have HT := Lib.hid hT
  -- what the walk leaves: pages and configuration are as they were
  have hfar : ∀ (L : List Int) (d : Int) (S' : CS), (CS.pageL L d S').2.look = S'.look ∧ (CS.pageL L d S').2.c = S'.c := by
    have mk : ∀ (S' : CS) (v : Int), (S'.mark v).look = S'.look ∧ (S'.mark v).c = S'.c := fun S' v => by
      unfold CS.mark; split
      · exact ⟨rfl, rfl⟩
      · simp only []; split <;> exact ⟨rfl, rfl⟩
    have mf : ∀ (a : Int) (k : Nat) (n : Int) (S' : CS), (CS.markF a k n S').look = S'.look ∧ (CS.markF a k n S').c = S'.c := by
      intro a k
      induction k with
      | zero => intro n S'; exact ⟨rfl, rfl⟩
      | succ k ih => intro n S'; unfold CS.markF; have := ih (n + 1) (S'.mark (S'.ref a n)); have := mk S' (S'.ref a n); exact ⟨by omega, by rw [(ih _ _).2]; exact this.2⟩
    have mt : ∀ (S' : CS) (a : Int), (S'.mthrough a).2.look = S'.look ∧ (S'.mthrough a).2.c = S'.c := fun S' a => by
      unfold CS.mthrough; simp only []; split
      · exact ⟨rfl, rfl⟩
      · exact mf a _ 0 _
    intro L
    induction L with
    | nil => intro d S'; exact ⟨rfl, rfl⟩
    | cons a r ih =>
      intro d S'; unfold CS.pageL; split
      · have h1 := ih (d + (S'.mthrough a).1 + 1) (S'.mthrough a).2
        have h2 := mt S' a
        exact ⟨h1.1.trans h2.1, h1.2.trans h2.2⟩
      · exact ih (d + 1) S'
  have hT1 := hfar L 1 S
  rw [hT] at hT1
  have hcp : S.c.p ≤ 64 := by obtain ⟨m, R, G, h⟩ := hO; exact h.inv.geo.cf.p1
  have hcp0 : 0 ≤ S.c.p := by obtain ⟨m, R, G, h⟩ := hO; exact h.inv.geo.cf.p0
  clear h hfr hR hL hT hLb hok hc hpf hpe hfar hO
  go_enter Tryz.func145, Tryz.ntmps145
  go_wp2_with fail
  go_region_held3 (fun w' => w'.cell? ⟨k.c, 15, none⟩ = some (pt k.o) ∧ w'.cell? ⟨k.c, 24, none⟩ = some (i6 S.look)) (first | exact ⟨c15, c24⟩ | exact ⟨f15, f24⟩ | go_keep) ((go_at_call 150; (with_reducible refine (HC.out _ ?hx).mono ?_); (case hx => exact H.out.drewN _); rintro e w1 ⟨rfl, h1⟩; have f15 : w1.cell? ⟨k.c, 15, none⟩ = some (pt k.o) := (c_at h1).1.2.2.1; have f24 : w1.cell? ⟨k.c, 24, none⟩ = some (i6 S.look) := (c_at h1).2.1.2.2.2.2.2.1))
  have fbl := (c_at h1).2.2.1
  have H1 := Lib.hid h1
  clear h1 H HC c15 c24 hbl
  go_wp2_with fail
  refine (oStarts_in pf pe H1.out).mono ?_
  rintro e w2 ⟨A1, n1, rfl, h2⟩
  rw [HSL.out] at h2 ⊢
  have H2 := Lib.hid h2
  clear h2 H1
  go_wp2_with fail
  go_loopg [3, 7, 28] L.length (fun gk n3 s7 n28 wr => ∃ (j : Nat) (d : Int) (S' : CS), j + gk = L.length ∧ n28 = .int .i64 j ∧ n3 = .int .i64 d ∧ 0 ≤ d ∧ d ≤ 1 + 67 * j ∧ CS.pageL (L.drop j) d S' = T ∧ SepO W oo wr (cparts k S' ++ (l ++ [Ma.rowI8 A1 n1 L])))
  case atStart => exact ⟨0, 1, S, by omega, rfl, rfl, by omega, by omega, HT.out, H2.out⟩
  case round =>
    clear H2 HT f15 f24 fbl
    obtain ⟨j, d, S', hj, rfl, rfl, hd0, hd1, ht, h⟩ := hrel
    have HJ := Lib.hid hj
    have hjL : j ≤ L.length := by omega
    have hbl := (c_at h).2.2.1
    by_cases hlt : j < L.length
    · obtain ⟨x, hx⟩ : ∃ x, L[j] = x := ⟨_, rfl⟩
      have hxb : I64 x := hx ▸ HLB.out _ (List.getElem_mem hlt)
      obtain ⟨G, off, rfl, y0⟩ := Ma.row_at h (8 + l.length) c_last hlt
      rw [hx] at y0
      rw [List.drop_eq_getElem_cons hlt, hx] at ht
      unfold CS.pageL at ht
      obtain ⟨X, hX⟩ : ∃ X, S'.hd x = X := ⟨_, rfl⟩
      obtain ⟨M, hM⟩ : ∃ M, S'.mthrough x = M := ⟨_, rfl⟩
      have hmb := mthrough_b S' x
      rw [hM] at hmb
      simp only [hX, hM] at ht
      obtain ⟨M1, M2⟩ := M
      obtain ⟨q0, q1, q2, q3, q4, q5, q6⟩ := X
      simp only [] at hmb ht
      have hfg := field_grey (i6 q0) (i6 q1) (i6 q2) (i6 q3) (.bool q4) (.bool q5) (.bool q6)
      have HX := Lib.hid hX
      have HM := Lib.hid hM
      have HT := Lib.hid ht
      have HS := Lib.hid h
      have hw1 : wrap64 (d + M1) = d + M1 := by unfold wrap64; omega
      have hw2 : wrap64 (d + M1 + 1) = d + M1 + 1 := by unfold wrap64; omega
      have hw3 : wrap64 (d + 1) = d + 1 := by unfold wrap64; omega
      clear h ht hX hM hj hx
      go_wp2_with fail
      refine (Head_in x HS.out).mono ?_
      rintro e w3 ⟨rfl, h3⟩
      rw [HX.out]
      simp only [Hea.Hd.cells]
      have H3 := Lib.hid h3
      clear h3 HS y0
      cases q4
      · go_wp2_with fail
        go_roundg (gk - 1)
        case measure => have := HJ.out; omega
        case rel => exact ⟨j + 1, d + 1, S', by have := HJ.out; omega, by go_num, by first | rfl | rw [hw3], by omega, by omega, by have := HT.out; simpa using this, H3.out⟩
      · go_wp2_with fail
        refine (mthrough_in x hxb H3.out).mono ?_
        rintro e w4 ⟨rfl, h4⟩
        rw [HM.out] at h4 ⊢
        simp only [] at h4 ⊢
        have H4 := Lib.hid h4
        clear h4 H3
        go_wp2_with fail
        go_roundg (gk - 1)
        case measure => have := HJ.out; omega
        case rel => exact ⟨j + 1, d + M1 + 1, M2, by have := HJ.out; omega, by go_num, by first | rfl | rw [hw1, hw2], by omega, by omega, by have := HT.out; simpa using this, H4.out⟩
    · have hj2 : j = L.length := by omega
      rw [hj2, List.drop_length] at ht
      have ht' : (d, S') = T := ht
      subst ht'
      obtain ⟨_, ⟨_, _, _, _, _, d24, _⟩, dbl, dfr⟩ := c_at h
      simp only [] at hT1
      obtain ⟨hk1, hk2⟩ := hT1
      have f24 := dfr 24
      have d2 : wr.cell? ⟨k.c, 2, none⟩ = some (i6 S'.c.p) := (c_blk h).cell 2
      rw [hk1] at d24
      rw [hk2] at d2
      have hw1 : wrap64 (S.look + 1) = S.look + 1 := by unfold wrap64; omega
      have h5 := c_look (S.look + 1) (c_drop h)
      by_cases hle : S.c.p ≤ S.look + 1
      · have h6 := c_look (-1) h5
        have e1 : (if S'.c.p ≤ S'.look + 1 then (-1 : Int) else S'.look + 1) = -1 := by rw [hk1, hk2, if_pos hle]
        have H6 := Lib.hid h6
        clear h h5 h6 ht hj2 hj dfr
        go_wp2_with fail
        go_region
        all_goals
          go_wp2_with fail
          go_ret
          refine ⟨rfl, ?_⟩
          rw [← hk2]
          exact H6.out.drew
      · have e1 : (if S'.c.p ≤ S'.look + 1 then (-1 : Int) else S'.look + 1) = S.look + 1 := by rw [hk1, hk2, if_neg hle]
        have H5 := Lib.hid h5
        clear h h5 ht hj2 hj dfr
        go_wp2_with fail
        go_region
        all_goals
          go_wp2_with fail
          go_ret
          refine ⟨rfl, ?_⟩
          rw [← hk2]
          exact H5.out.drew
end
end Go.Proofs.YtihmkkjmnbehbaaGreat.Wh
/- Lost ones of the nursery: the walk. Condition: the heap is as it should be. -/
set_option linter.unusedVariables false
set_option linter.unusedSimpArgs false
namespace Go.Proofs.YtihmkkjmnbehbaaGreat.Wh
open Go.RowKit Go.Proofs.YtihmkkjmnbehbaaGreat.W Go.Proofs.YtihmkkjmnbehbaaGreat.Sm
theorem mark_y (S : CS) (v : Int) : (S.mark v).y = S.y := by
  unfold CS.mark; split
  · rfl
  · simp only []; split <;> rfl
theorem markF_y (a : Int) : ∀ (k : Nat) (n : Int) (S : CS), (CS.markF a k n S).y = S.y := by
  intro k
  induction k with
  | zero => intro n S; rfl
  | succ k ih => intro n S; unfold CS.markF; rw [ih, mark_y]
theorem mthrough_y (S : CS) (a : Int) : (S.mthrough a).2.y = S.y := by
  unfold CS.mthrough; simp only []; split
  · rfl
  · exact markF_y a _ 0 _
theorem half_y (e : Int) : ∀ (k : Nat) (a d : Int) (S : CS), (CS.half e k a d S).2.y = S.y := by
  intro k
  induction k with
  | zero => intro a d S; rfl
  | succ k ih =>
    intro a d S; unfold CS.half; split
    · simp only []; rw [ih]; split
      · exact mthrough_y S a
      · rfl
    · rfl
theorem half_b (e : Int) : ∀ (k : Nat) (a d : Int) (S : CS), d ≤ (CS.half e k a d S).1 ∧ (CS.half e k a d S).1 ≤ d + 67 * k := by
  intro k
  induction k with
  | zero => intro a d S; exact ⟨Int.le_refl _, by show d ≤ _; omega⟩
  | succ k ih =>
    intro a d S; unfold CS.half; split
    · simp only []
      have hb := mthrough_b S a
      split
      · have := ih (a + Ob.wordsOf (S.hd a)) (d + (S.mthrough a).1 + 1) (S.mthrough a).2
        dsimp only
        omega
      · have := ih (a + Ob.wordsOf (S.hd a)) (d + 1) S
        dsimp only
        omega
    · exact ⟨Int.le_refl _, by show d ≤ _; omega⟩
section
variable {W w : World} {oo : Nat → Prop} {k : CK} {S : CS} {l : List Pr} {F : FuncId} {args : Array Value}
theorem gFound_in (h : SepO W oo w (cparts k S ++ l)) : Calls Tryz.prog 173 #[pt k.g] w fun e w' => e = .returned (.tuple #[]) ∧ SepO W oo w' (cparts k { S with gz := false } ++ l) := Gy.Found_sep h 5 rfl
set_option maxRecDepth 20000 in
set_option maxHeartbeats 8000000 in
theorem lost_in (h : SepO W oo w (cparts k S ++ l)) : Calls Tryz.prog 147 #[pt k.c] w fun e w' => e = .returned (.int .i64 S.lost.1) ∧ SepO W oo w' (cparts k S.lost.2 ++ l) := by
  obtain ⟨⟨_, c14, _, _, c17, _⟩, _, hbl, hfr⟩ := c_at h
  have hy := y_ok h
  have f24 := hfr 24
  have H := Lib.hid h
  unfold Bp.Sp.ok at hy
  have hb : (0 ≤ S.y.here ∧ S.y.here ≤ 2097152) ∧ (0 ≤ S.y.there ∧ S.y.there ≤ 2097152) ∧ (0 ≤ S.y.used ∧ S.y.used ≤ 1048576) ∧ (0 ≤ S.y.left ∧ S.y.left ≤ 1048576) := by
    unfold Bp.Sp.here Bp.Sp.there Bp.Sp.used Bp.Sp.left; split <;> omega
  obtain ⟨hb1, hb2, hb3, hb4⟩ := hb
  obtain ⟨S0, hS0⟩ : ∃ S0 : CS, { S with gz := false, look := 0 } = S0 := ⟨_, rfl⟩
  have y0 : S0.y = S.y := by rw [← hS0]
  obtain ⟨T1, hT1⟩ : ∃ T1, CS.half (S.y.here + S.y.used) (S.y.here + S.y.used - S.y.here).toNat S.y.here 0 S0 = T1 := ⟨_, rfl⟩
  have y1 : T1.2.y = S.y := by rw [← hT1, half_y, y0]
  obtain ⟨T2, hT2⟩ : ∃ T2, CS.half (S.y.there + S.y.left) (S.y.there + S.y.left - S.y.there).toNat S.y.there 0 T1.2 = T2 := ⟨_, rfl⟩
  have hR : S.lost = (T1.1 + T2.1 + 1, T2.2) := by
    unfold CS.lost
    rw [hS0]
    simp only [y0, hT1, y1, hT2]
  have t1b := half_b (S.y.here + S.y.used) (S.y.here + S.y.used - S.y.here).toNat S.y.here 0 S0
  have t2b := half_b (S.y.there + S.y.left) (S.y.there + S.y.left - S.y.there).toNat S.y.there 0 T1.2
  rw [hT1] at t1b
  rw [hT2] at t2b
  rw [hR]
  obtain ⟨a1, ha1⟩ : ∃ x, S.y.here = x := ⟨_, rfl⟩
  obtain ⟨a2, ha2⟩ : ∃ x, S.y.there = x := ⟨_, rfl⟩
  obtain ⟨u1, hu1⟩ : ∃ x, S.y.used = x := ⟨_, rfl⟩
  obtain ⟨u2, hu2⟩ : ∃ x, S.y.left = x := ⟨_, rfl⟩
  rw [ha1, hu1] at hT1 t1b
  rw [ha2, hu2] at hT2 t2b
  rw [ha1] at hb1
  rw [ha2] at hb2
  rw [hu1] at hb3
  rw [hu2] at hb4
  have b1 : 0 ≤ T1.1 ∧ T1.1 ≤ 67 * 1048576 := by omega
  have b2 : 0 ≤ T2.1 ∧ T2.1 ≤ 67 * 1048576 := by omega
  have hc1 : ∀ w', SepO W oo w' (cparts k S0 ++ l) → Calls Tryz.prog 90 #[pt k.y] w' fun e w'' => e = .returned (.int .i64 u1) ∧ SepO W oo w'' (cparts k S0 ++ l) := fun w' h' => by
    have := yUsed_in h'; rw [y0, hu1] at this; exact this
  have hc2 : ∀ w', SepO W oo w' (cparts k S0 ++ l) → Calls Tryz.prog 174 #[pt k.c, .int .i64 a1, .int .i64 u1] w' fun e w'' => e = .returned (.int .i64 T1.1) ∧ SepO W oo w'' (cparts k T1.2 ++ l) := fun w' h' => by
    have := half_in a1 u1 hb1 hb3 h'; rw [hT1] at this; exact this
  have hc3 : ∀ w', SepO W oo w' (cparts k T1.2 ++ l) → Calls Tryz.prog 91 #[pt k.y] w' fun e w'' => e = .returned (.int .i64 u2) ∧ SepO W oo w'' (cparts k T1.2 ++ l) := fun w' h' => by
    have := yLeft_in h'; rw [y1, hu2] at this; exact this
  have hc4 : ∀ w', SepO W oo w' (cparts k T1.2 ++ l) → Calls Tryz.prog 174 #[pt k.c, .int .i64 a2, .int .i64 u2] w' fun e w'' => e = .returned (.int .i64 T2.1) ∧ SepO W oo w'' (cparts k T2.2 ++ l) := fun w' h' => by
    have := half_in a2 u2 hb2 hb4 h'; rw [hT2] at this; exact this
  have HC1 := Lib.hid hc1
  have HC2 := Lib.hid hc2
  have HC3 := Lib.hid hc3
  have HC4 := Lib.hid hc4
  have HS0 := Lib.hid hS0
  have hw1 : IntKind.i64.wrap (T1.1 + T2.1) = T1.1 + T2.1 := by rw [IntWalk.i64_left]; unfold wrap64; omega
  have hw2 : IntKind.i64.wrap (T1.1 + T2.1 + 1) = T1.1 + T2.1 + 1 := by rw [IntWalk.i64_left]; unfold wrap64; omega
  have HA := Lib.hid (And.intro ha1 ha2)
  obtain ⟨x1, hx1⟩ : ∃ x, T1.1 = x := ⟨_, rfl⟩
  obtain ⟨x2, hx2⟩ : ∃ x, T2.1 = x := ⟨_, rfl⟩
  rw [hx1] at HC2 hw1 hw2 b1 ⊢
  rw [hx2] at HC4 hw1 hw2 b2 ⊢
  clear h hR hfr hT1 hT2 hc1 hc2 hc3 hc4 hS0 y0 y1 t1b t2b hy ha1 ha2 hu1 hu2 hx1 hx2
  go_enter Tryz.func147, Tryz.ntmps147
  go_wp2_with fail
  refine (gFound_in H.out).mono ?_
  rintro e w1 ⟨rfl, h1⟩
  have hbl1 := (c_at h1).2.2.1
  obtain ⟨⟨_, d14, _⟩, ⟨_, _, _, _, _, d24, _⟩, dbl, dfr⟩ := c_at h1
  have df24 := dfr 24
  have h2 := c_look 0 h1
  replace h2 : SepO W oo (w1.setCell ⟨k.c, 24, none⟩ (i6 0)) (cparts k S0 ++ l) := by rw [← HS0.out]; exact h2
  have H2 := Lib.hid h2
  clear h1 h2 H dfr c14 c17 hbl f24
  go_wp2_with fail
  refine (yBegin_to (a := a1) (b := a2) (by rw [← HS0.out]; exact HA.out.1) (by rw [← HS0.out]; exact HA.out.2) H2.out).mono ?_
  rintro e w3 ⟨rfl, h3⟩
  obtain ⟨⟨_, e14, _⟩, _, ebl, _⟩ := c_at h3
  have H3 := Lib.hid h3
  clear h3 H2 d14 d24 dbl df24
  go_wp2_with fail
  go_region_held3 (fun w' => w'.cell? ⟨k.c, 14, none⟩ = some (pt k.y)) (first | exact e14 | exact f1 | exact f2 | exact f3 | exact f4 | go_keep) ((first | (go_at_call 90; (with_reducible refine (HC1.out _ ?hx).mono ?_); (case hx => first | exact H3.out.drewN _ | exact H3.out); rintro e w4 ⟨rfl, h4⟩; have f1 := (c_at h4).1.2.1) | (go_at_call 174; (with_reducible refine (HC2.out _ ?hx).mono ?_); (case hx => first | exact h4.drewN _ | exact h4); rintro e w5 ⟨rfl, h5⟩; have f2 := (c_at h5).1.2.1) | (go_at_call 91; (with_reducible refine (HC3.out _ ?hx).mono ?_); (case hx => first | exact h5.drewN _ | exact h5); rintro e w6 ⟨rfl, h6⟩; have f3 := (c_at h6).1.2.1) | (go_at_call 174; (with_reducible refine (HC4.out _ ?hx).mono ?_); (case hx => first | exact h6.drewN _ | exact h6); rintro e w7 ⟨rfl, h7⟩; have f4 := (c_at h7).1.2.1)))
  have H7 := Lib.hid h7
  clear h7 H3
  go_wp2_with fail
  go_ret
  exact ⟨rfl, H7.out⟩
end
end Go.Proofs.YtihmkkjmnbehbaaGreat.Wh
/- A bit of looking for what is held: the walk. Condition: the heap is as it should be. -/
set_option linter.unusedVariables false
set_option linter.unusedSimpArgs false
namespace Go.Proofs.YtihmkkjmnbehbaaGreat.Wh
open Go.RowKit Go.Proofs.YtihmkkjmnbehbaaGreat.W Go.Proofs.YtihmkkjmnbehbaaGreat.Sm
section
variable {W w : World} {oo : Nat → Prop} {k : CK} {S : CS} {l : List Pr} {F : FuncId} {args : Array Value}
theorem gPop_in (h : SepO W oo w (cparts k S ++ l)) : Calls Tryz.prog 143 #[pt k.g] w fun e w' => e = .returned (.tuple #[.int .i64 (Gy.last0 S.gl), .bool (Gy.some0 S.gl)]) ∧ SepO W oo w' (cparts k { S with gl := S.gl.take (S.gl.length - 1) } ++ l) := Gy.Pop_sep h 5 rfl
theorem gLost_in (h : SepO W oo w (cparts k S ++ l)) : Calls Tryz.prog 146 #[pt k.g] w fun e w' => e = .returned (.bool S.gz) ∧ SepO W oo w' (cparts k S ++ l) := Gy.Lost_sep h 5 rfl
theorem oPend_in (h : SepO W oo w (cparts k S ++ l)) : Calls Tryz.prog 148 #[pt k.o] w fun e w' => e = .returned (.tuple #[]) ∧ SepO W oo w' (cparts k { S with o := S.o.pend } ++ l) := Ma.Pend_sep h 3 rfl
set_option maxHeartbeats 4000000 in
theorem mark_in (hO : Ok S) (h : SepO W oo w (cparts k S ++ l)) : Calls Tryz.prog 122 #[pt k.c] w fun e w' => e = .returned (.int .i64 S.markS.1) ∧ SepO W oo w' (cparts k S.markS.2 ++ l) := by
  obtain ⟨⟨_, _, _, _, c17, _⟩, _, hbl, _⟩ := c_at h
  have hgb := hO.nb.gb
  have H := Lib.hid h
  cases hs : Gy.some0 S.gl
  · have gl0 : S.gl = [] := by cases hg : S.gl with
      | nil => rfl
      | cons => rw [hg] at hs; cases hs
    have e0 : ({ S with gl := S.gl.take (S.gl.length - 1) } : CS) = S := by
      have : S.gl.take (S.gl.length - 1) = S.gl := by rw [gl0]; rfl
      rw [this]
    by_cases hk : 0 ≤ S.look
    · have hR : S.markS = S.page := by unfold CS.markS; rw [if_neg (by rw [hs]; simp), if_pos hk]
      rw [hR]
      have HE := Lib.hid e0
      have HO := Lib.hid hO
      have HS := Lib.hid hs
      have hdk : decide (0 ≤ S.look) = true := by simpa using hk
      clear h hR e0 gl0 hO hs
      go_enter Tryz.func122, Tryz.ntmps122
      go_wp2_with fail
      refine (gPop_in H.out).mono ?_
      rintro e w1 ⟨rfl, h1⟩
      rw [HE.out] at h1
      rw [HS.out]
      have c24 := (c_at h1).2.1.2.2.2.2.2.1
      have hbl1 := (c_at h1).2.2.1
      have H1 := Lib.hid h1
      clear h1 H c17 hbl
      go_wp2_with fail
      refine (page_in HO.out hk H1.out).mono ?_
      rintro e w2 ⟨rfl, h2⟩
      have H2 := Lib.hid h2
      clear h2 H1
      go_wp2_with fail
      go_ret
      exact ⟨rfl, H2.out⟩
    · have hdk : decide (0 ≤ S.look) = false := by simpa using hk
      cases hz : S.gz
      · have hR : S.markS = (1, { S with ph := 2, o := S.o.pend }) := by unfold CS.markS; rw [if_neg (by rw [hs]; simp), if_neg hk, if_neg (by rw [hz]; simp)]
        rw [hR]
        have HE := Lib.hid e0
        have HS := Lib.hid hs
        have HZ := Lib.hid hz
        clear h hR e0 gl0 hO hs hz
        go_enter Tryz.func122, Tryz.ntmps122
        go_wp2_with fail
        refine (gPop_in H.out).mono ?_
        rintro e w1 ⟨rfl, h1⟩
        rw [HE.out] at h1
        rw [HS.out]
        have c24 := (c_at h1).2.1.2.2.2.2.2.1
        have d17 := (c_at h1).1.2.2.2.2.1
        have hbl1 := (c_at h1).2.2.1
        have H1 := Lib.hid h1
        clear h1 H c17 hbl
        go_wp2_with fail
        refine (gLost_in H1.out).mono ?_
        rintro e w2 ⟨rfl, h2⟩
        rw [HZ.out]
        obtain ⟨⟨_, _, e15, _⟩, ⟨_, e20, _⟩, ebl, efr⟩ := c_at h2
        have f20 := efr 20
        have h3 := c_ph 2 h2
        have H3 := Lib.hid h3
        clear h2 h3 H1 efr c24 d17 hbl1
        go_wp2_with fail
        refine (oPend_in H3.out).mono ?_
        rintro e w4 ⟨rfl, h4⟩
        have H4 := Lib.hid h4
        clear h4 H3
        go_wp2_with fail
        go_ret
        exact ⟨rfl, H4.out⟩
      · have hR : S.markS = S.lost := by unfold CS.markS; rw [if_neg (by rw [hs]; simp), if_neg hk, if_pos hz]
        rw [hR]
        have HE := Lib.hid e0
        have HS := Lib.hid hs
        have HZ := Lib.hid hz
        clear h hR e0 gl0 hO hs hz
        go_enter Tryz.func122, Tryz.ntmps122
        go_wp2_with fail
        refine (gPop_in H.out).mono ?_
        rintro e w1 ⟨rfl, h1⟩
        rw [HE.out] at h1
        rw [HS.out]
        have c24 := (c_at h1).2.1.2.2.2.2.2.1
        have d17 := (c_at h1).1.2.2.2.2.1
        have hbl1 := (c_at h1).2.2.1
        have H1 := Lib.hid h1
        clear h1 H c17 hbl
        go_wp2_with fail
        refine (gLost_in H1.out).mono ?_
        rintro e w2 ⟨rfl, h2⟩
        rw [HZ.out]
        have H2 := Lib.hid h2
        clear h2 H1 c24 d17 hbl1
        go_wp2_with fail
        refine (lost_in H2.out).mono ?_
        rintro e w3 ⟨rfl, h3⟩
        have H3 := Lib.hid h3
        clear h3 H2
        go_wp2_with fail
        go_ret
        exact ⟨rfl, H3.out⟩
  · obtain ⟨x, hx⟩ : ∃ x, Gy.last0 S.gl = x := ⟨_, rfl⟩
    have hxb : I64 x := hgb x (by rw [last_split hs, hx]; simp)
    obtain ⟨S1, hS1⟩ : ∃ S1 : CS, { S with gl := S.gl.take (S.gl.length - 1) } = S1 := ⟨_, rfl⟩
    obtain ⟨q, hq⟩ : ∃ q, S1.now x = q := ⟨_, rfl⟩
    have hqb : I64 q := hq ▸ now_b S1 hxb
    have hR : S.markS = S1.mthrough q := by
      unfold CS.markS; rw [if_pos hs, hx]; simp only []
      rw [hS1, hq]
    rw [hR]
    have HS := Lib.hid hs
    have HX := Lib.hid hx
    have HS1 := Lib.hid hS1
    have HQ := Lib.hid hq
    clear h hR hO hs hx hS1 hq
    go_enter Tryz.func122, Tryz.ntmps122
    go_wp2_with fail
    refine (gPop_in H.out).mono ?_
    rintro e w1 ⟨rfl, h1⟩
    rw [HS1.out] at h1
    rw [HS.out, HX.out]
    have hbl1 := (c_at h1).2.2.1
    have H1 := Lib.hid h1
    clear h1 H c17 hbl
    go_wp2_with fail
    refine (Now_in x hxb H1.out).mono ?_
    rintro e w2 ⟨rfl, h2⟩
    rw [HQ.out]
    have H2 := Lib.hid h2
    clear h2 H1
    go_wp2_with fail
    refine (mthrough_in q hqb H2.out).mono ?_
    rintro e w3 ⟨rfl, h3⟩
    have H3 := Lib.hid h3
    clear h3 H2
    go_wp2_with fail
    go_ret
    exact ⟨rfl, H3.out⟩
end
end Go.Proofs.YtihmkkjmnbehbaaGreat.Wh
/- A page is swept: the walk. No condition but sizes. -/
set_option linter.unusedVariables false
set_option linter.unusedSimpArgs false
namespace Go.Proofs.YtihmkkjmnbehbaaGreat.Wh
open Go.RowKit Go.Proofs.YtihmkkjmnbehbaaGreat.W Go.Proofs.YtihmkkjmnbehbaaGreat.Sm
section
variable {W w : World} {oo : Nat → Prop} {k : CK} {S : CS} {l : List Pr} {F : FuncId} {args : Array Value}
theorem oPending_in (h : SepO W oo w (cparts k S ++ l)) : Calls Tryz.prog 149 #[pt k.o] w fun e w' => e = .returned (.tuple #[.int .i64 (Ma.pnI S.o), .bool (Ma.pn S.o.l).isSome]) ∧ SepO W oo w' (cparts k S ++ l) := Ma.Pending_sep h 3 rfl
theorem oGive_in (x : Int) (hx : I64 x) (h : SepO W oo w (cparts k S ++ l)) : Calls Tryz.prog 152 #[pt k.o, .int .i64 x] w fun e w' => e = .returned (.bool (S.o.has x)) ∧ SepO W oo w' (cparts k { S with o := S.o.give x } ++ l) := Ma.Give_sep x hx h 3 rfl
theorem oDone_in (x : Int) (h : SepO W oo w (cparts k S ++ l)) : Calls Tryz.prog 153 #[pt k.o, .int .i64 x] w fun e w' => e = .returned (.bool (Ma.doneB S.o.l x)) ∧ SepO W oo w' (cparts k { S with o := S.o.done x } ++ l) := Ma.Done_sep x h 3 rfl
set_option maxRecDepth 20000 in
set_option maxHeartbeats 8000000 in
theorem sweep_in (h : SepO W oo w (cparts k S ++ l)) : Calls Tryz.prog 123 #[pt k.c] w fun e w' => e = .returned (.tuple #[.int .i64 S.sweep.1.1, .bool S.sweep.1.2]) ∧ SepO W oo w' (cparts k S.sweep.2 ++ l) := by
  obtain ⟨⟨_, _, c15, _⟩, _, hbl, hfr⟩ := c_at h
  have hok := o_ok h
  have H := Lib.hid h
  cases hn : Ma.pn S.o.l with
  | none =>
    have hR : S.sweep = ((1, false), { S with ph := 0, d := { S.d with ma := wrap64 (S.d.ma + 1) } }) := by unfold CS.sweep; rw [hn]
    rw [hR]
    have HN := Lib.hid hn
    clear h hR hfr hn hok
    go_enter Tryz.func123, Tryz.ntmps123
    go_wp2_with fail
    refine (oPending_in H.out).mono ?_
    rintro e w1 ⟨rfl, h1⟩
    rw [HN.out]
    obtain ⟨_, _, dbl, dfr⟩ := c_at h1
    have f20 := dfr 20
    have f30 := dfr 30
    have d20 := (c_at h1).2.1.2.1
    have d30 : w1.cell? ⟨k.c, 30, none⟩ = some (i6 S.d.ma) := (c_blk h1).cell 30
    have h2 := c_ma (wrap64 (S.d.ma + 1)) (c_ph 0 h1)
    have H2 := Lib.hid h2
    clear h1 h2 H dfr c15 hbl
    simp only [Option.isSome_none]
    go_wp2_with fail
    go_ret2
    exact ⟨rfl, H2.out⟩
  | some n =>
    obtain ⟨pf, hpf⟩ : ∃ x, pgF S.o n = x := ⟨_, rfl⟩
    obtain ⟨pe, hpe⟩ : ∃ x, pgT S.o n = x := ⟨_, rfl⟩
    obtain ⟨L, hL⟩ : ∃ L, Ma.stL S.o.f S.o.w pf pe S.o.l 0 = L := ⟨_, rfl⟩
    obtain ⟨T, hT⟩ : ∃ T, CS.sweepL L S = T := ⟨_, rfl⟩
    have hR : S.sweep = ((1 + (L.length : Int), true), { T with o := T.o.done n }) := by unfold CS.sweep; simp only [hn, hpf, hpe, hL, hT]
    rw [hR]
    have hLb : ∀ x, x ∈ L → I64 x := fun x hx => starts_b hok (by rw [hL]; exact hx)
    have hLl : L.length ≤ 16384 := by rw [← hL]; exact Ma.starts_len hok pf pe
    have hpn : Ma.pnI S.o = n := by unfold Ma.pnI; rw [hn]
    have HLB := Lib.hid hLb
    have HSL := Lib.hid hL
    have HT := Lib.hid hT
    have HPN := Lib.hid hpn
    have HN := Lib.hid hn
    have HPF := Lib.hid (And.intro hpf hpe)
    have hw1 : wrap64 (1 + (L.length : Int)) = 1 + L.length := by unfold wrap64; omega
    clear h hfr hR hL hT hLb hok hpf hpe hpn hn
    go_enter Tryz.func123, Tryz.ntmps123
    go_wp2_with fail
    refine (oPending_in H.out).mono ?_
    rintro e w1 ⟨rfl, h1⟩
    rw [HN.out, HPN.out]
    simp only [Option.isSome_some]
    have d15 := (c_at h1).1.2.2.1
    have dbl := (c_at h1).2.2.1
    have H1 := Lib.hid h1
    clear h1 H c15 hbl
    go_wp2_with fail
    refine (oPage_in n H1.out).mono ?_
    rintro e w2 ⟨rfl, h2⟩
    rw [HPF.out.1, HPF.out.2]
    have e15 := (c_at h2).1.2.2.1
    have ebl := (c_at h2).2.2.1
    have H2 := Lib.hid h2
    clear h2 H1 d15 dbl
    go_wp2_with fail
    refine (oStarts_in pf pe H2.out).mono ?_
    rintro e w3 ⟨A1, n1, rfl, h3⟩
    rw [HSL.out] at h3 ⊢
    have H3 := Lib.hid h3
    clear h3 H2 e15 ebl
    go_wp2_with fail
    go_loopg [10, 51] L.length (fun gk s10 n51 wr => ∃ (j : Nat) (S' : CS), j + gk = L.length ∧ n51 = .int .i64 j ∧ CS.sweepL (L.drop j) S' = T ∧ SepO W oo wr (cparts k S' ++ (l ++ [Ma.rowI8 A1 n1 L])))
    case atStart => exact ⟨0, S, by omega, rfl, HT.out, H3.out⟩
    case round =>
      clear H3 HT
      obtain ⟨j, S', hj, rfl, ht, h⟩ := hrel
      have HJ := Lib.hid hj
      have hjL : j ≤ L.length := by omega
      obtain ⟨⟨_, _, g15, _⟩, ⟨g19, _⟩, hbl, _⟩ := c_at h
      by_cases hlt : j < L.length
      · obtain ⟨x, hx⟩ : ∃ x, L[j] = x := ⟨_, rfl⟩
        have hxb : I64 x := hx ▸ HLB.out _ (List.getElem_mem hlt)
        obtain ⟨G, off, rfl, y0⟩ := Ma.row_at h (8 + l.length) c_last hlt
        rw [hx] at y0
        rw [List.drop_eq_getElem_cons hlt, hx] at ht
        unfold CS.sweepL at ht
        obtain ⟨X, hX⟩ : ∃ X, S'.hd x = X := ⟨_, rfl⟩
        rw [hX] at ht
        obtain ⟨q0, q1, q2, q3, q4, q5, q6⟩ := X
        simp only [] at ht
        have hfp := field_par (i6 q0) (i6 q1) (i6 q2) (i6 q3) (.bool q4) (.bool q5) (.bool q6)
        have hc : ∀ w', SepO W oo w' (cparts k S' ++ (l ++ [Ma.rowI8 (some ⟨G, off, none⟩) n1 L])) → Calls Tryz.prog 52 #[pt k.c, .int .i64 x] w' fun e w'' => e = .returned (.agg #[i6 q0, i6 q1, i6 q2, i6 q3, .bool q4, .bool q5, .bool q6]) ∧ SepO W oo w'' (cparts k S' ++ (l ++ [Ma.rowI8 (some ⟨G, off, none⟩) n1 L])) := fun w' h' => by
          have := Head_in x h'; rw [hX] at this; exact this
        have HC := Lib.hid hc
        have HT := Lib.hid ht
        have HS := Lib.hid h
        clear h ht hX hj hx hc
        by_cases hp : q3 = S'.par
        · have hpb : (q3 != S'.par) = false := by simpa using hp
          have hnx : CS.sweepL (L.drop (j + 1)) S' = T := by have := HT.out; rw [if_neg (fun hh => hh hp)] at this; exact this
          have HNX := Lib.hid hnx
          clear hnx HT
          subst hp
          go_wp2_with fail
          go_region_held3 (fun w' => w'.cell? ⟨k.c, 19, none⟩ = some (i6 S'.par)) (first | exact g19 | exact f19 | go_keep) ((go_at_call 52; (with_reducible refine (HC.out _ ?hx).mono ?_); (case hx => first | exact HS.out.drewN _ | exact HS.out); rintro e w4 ⟨rfl, h4⟩; have f19 := (c_at h4).2.1.1))
          have H4 := Lib.hid h4
          clear h4 HS y0
          go_wp2_with fail
          go_roundg (gk - 1)
          case measure => have := HJ.out; omega
          case rel => exact ⟨j + 1, S', by have := HJ.out; omega, by go_num, HNX.out, by first | exact H4.out | exact H4.out.drewN _⟩
        · have hpb : (q3 != S'.par) = true := by simpa using hp
          have hnx : CS.sweepL (L.drop (j + 1)) { S' with o := S'.o.give x } = T := by have := HT.out; rw [if_pos hp] at this; exact this
          have HNX := Lib.hid hnx
          clear hnx HT
          go_wp2_with fail
          go_region_held3 (fun w' => w'.cell? ⟨k.c, 19, none⟩ = some (i6 S'.par)) (first | exact g19 | exact f19 | go_keep) ((go_at_call 52; (with_reducible refine (HC.out _ ?hx).mono ?_); (case hx => first | exact HS.out.drewN _ | exact HS.out); rintro e w4 ⟨rfl, h4⟩; have f19 := (c_at h4).2.1.1))
          have i15 := (c_at h4).1.2.2.1
          have ibl := (c_at h4).2.2.1
          have H4 := Lib.hid h4
          clear h4 HS y0
          go_wp2_with fail
          refine (oGive_in x hxb H4.out).mono ?_
          rintro e w5 ⟨rfl, h5⟩
          have H5 := Lib.hid h5
          clear h5 H4
          go_wp2_with fail
          go_roundg (gk - 1)
          case measure => have := HJ.out; omega
          case rel => exact ⟨j + 1, _, by have := HJ.out; omega, by go_num, HNX.out, H5.out⟩
      · have hj2 : j = L.length := by omega
        rw [hj2, List.drop_length] at ht
        have ht' : S' = T := ht
        subst ht'
        have H1 := Lib.hid h
        clear h ht hj2 hj
        go_wp2_with fail
        refine (oDone_in n H1.out).mono ?_
        rintro e w5 ⟨rfl, h5⟩
        have H5 := Lib.hid (c_drop h5)
        clear h5 H1
        go_wp2_with fail
        go_ret2
        exact ⟨rfl, H5.out⟩
end
end Go.Proofs.YtihmkkjmnbehbaaGreat.Wh
/- Bits of the major cycle: the walks. Condition: the heap is as it should be. -/
set_option linter.unusedVariables false
set_option linter.unusedSimpArgs false
namespace Go.Proofs.YtihmkkjmnbehbaaGreat.Wh
open Go.RowKit Go.Proofs.YtihmkkjmnbehbaaGreat.W Go.Proofs.YtihmkkjmnbehbaaGreat.Sm
theorem Ok.majStep {S : CS} (h : Ok S) : Ok S.majStep.2 ∧ Far S S.majStep.2 ∧ 0 ≤ S.majStep.1.1 ∧ S.majStep.1.1 ≤ 1100000 := by
  obtain ⟨m, R, G, h⟩ := h
  obtain ⟨m', R', h1, h2, h3, h4⟩ := h.majStep
  refine ⟨⟨m', R', G, h1⟩, h2, ?_⟩
  by_cases h0 : S.ph = 0
  · rw [h3 h0]; simp
  · have := h4 h0; exact ⟨this.1, this.2.1⟩
theorem pageL_b : ∀ (L : List Int) (d : Int) (S : CS), d ≤ (CS.pageL L d S).1 := by
  intro L
  induction L with
  | nil => intro d S; exact Int.le_refl _
  | cons a r ih =>
    intro d S; unfold CS.pageL
    have := mthrough_b S a
    split
    · have := ih (d + (S.mthrough a).1 + 1) (S.mthrough a).2; omega
    · have := ih (d + 1) S; omega
theorem majStep_pos (S : CS) (h : S.majStep.1.2 = true) : 1 ≤ S.majStep.1.1 := by
  unfold CS.majStep at h ⊢
  by_cases h0 : S.ph = 0
  · rw [if_pos h0] at h; cases h
  · rw [if_neg h0] at h ⊢
    by_cases h1 : S.ph = 1
    · rw [if_pos h1]
      show 1 ≤ S.markS.1
      unfold CS.markS
      split
      · exact (mthrough_b _ _).1
      · split
        · exact pageL_b _ 1 S
        · split
          · unfold CS.lost
            simp only []
            have a := half_b
            have b1 := (half_b (S.y.here + S.y.used) (S.y.here + S.y.used - S.y.here).toNat S.y.here 0 { S with gz := false, look := 0 }).1
            generalize CS.half (S.y.here + S.y.used) (S.y.here + S.y.used - S.y.here).toNat S.y.here 0 { S with gz := false, look := 0 } = T at b1 ⊢
            have b2 := (half_b (T.2.y.there + T.2.y.left) (T.2.y.there + T.2.y.left - T.2.y.there).toNat T.2.y.there 0 T.2).1
            omega
          · exact Int.le_refl _
    · rw [if_neg h1]
      unfold CS.sweep
      split
      · simp
      · simp only []; omega
end Go.Proofs.YtihmkkjmnbehbaaGreat.Wh
