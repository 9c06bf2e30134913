/- Texts of the whole heap, joined: WhF WhG. No condition beside those that each lemma names. -/
import Derived.Test.YtihmkkjmnbehbaaGreatMg18
import Derived.Test.YtihmkkjmnbehbaaGreatMg17
import Derived.IntWalk
/- Calls of the core by handles. No condition. -/
set_option linter.unusedVariables false
set_option linter.unusedSimpArgs false
namespace Go.Proofs.YtihmkkjmnbehbaaGreat.Wh
open Go.RowKit Go.Proofs.YtihmkkjmnbehbaaGreat.W Go.Proofs.YtihmkkjmnbehbaaGreat.Sm
section
variable {W w : World} {oo : Nat → Prop} {k : CK} {S : CS} {l : List Pr} {F : FuncId} {args : Array Value}
theorem TGet_in (x : Int) (h : SepO W oo w (cparts k S ++ l)) : Calls Tryz.prog 24 #[pt k.t, .int .i64 x] w fun e w' => e = .returned (.tuple #[.int .i64 (S.get x).1, .int .i64 (S.get x).2]) ∧ SepO W oo w' (cparts k S ++ l) := by
  obtain ⟨o, hp, _⟩ := h.get 6 rfl
  refine (Tab.Get_calls x w hp).mono ?_
  rintro e w' ⟨rfl, rfl⟩
  exact ⟨rfl, h⟩
theorem TSet_in (x v : Int) (h : SepO W oo w (cparts k S ++ l)) : Calls Tryz.prog 75 #[pt k.t, .int .i64 x, .int .i64 v] w fun e w' => e = .returned (.int .i64 (Tab.setE S.tb x)) ∧ SepO W oo w' (cparts k (S.set x v) ++ l) := by
  obtain ⟨o, hp, _, hup⟩ := h.open0 6 rfl
  refine (Tab.Set_calls x v w hp).mono ?_
  rintro e w' ⟨rfl, hr, hk⟩
  exact ⟨rfl, hup w' (Tbl k.t (Tab.sets S.tb x v)) hr hk⟩
theorem get_e (S : CS) (x : Int) : (S.get x).2 = 0 ∨ (S.get x).2 = 3 := by unfold CS.get Tab.gets; split <;> simp
set_option maxHeartbeats 1000000 in
theorem object_in (x : Int) (h : SepO W oo w (cparts k S ++ l)) : Calls Tryz.prog 72 #[pt k.c, .int .i64 x] w fun e w' => e = .returned (.tuple #[.int .i64 (S.obj x).1, .agg (S.obj x).2.1.cells, .int .i64 (S.obj x).2.2]) ∧ SepO W oo w' (cparts k S ++ l) := by
  obtain ⟨⟨_, _, _, _, _, c18⟩, _, hbl, _⟩ := c_at h
  have H := Lib.hid h
  obtain ⟨O, hO⟩ : ∃ O, S.obj x = O := ⟨_, rfl⟩
  rw [hO]
  have HO := Lib.hid hO
  obtain ⟨z, hzz⟩ : ∃ z, w.heap.size = z := ⟨_, rfl⟩
  have hz := c_add h 99 #[i6 0, i6 0, i6 0, i6 0, .bool false, .bool false, .bool false]
  rw [hzz] at hz
  have zb := SepO.blk hz (8 + l.length) c_last
  obtain ⟨⟨_, _, _, _, _, d18⟩, _, dbl, _⟩ := c_at hz
  have HZ := Lib.hid hz
  clear h hO hz zb c18
  have hfin : ∀ (w' : World) (tm : Array Value) (a e : Int) (x : Hd), SepO W oo w' (cparts k S ++ (l ++ [blkP z 99 x.cells])) → tm[4]?.getD undef = .int .i64 a → tm[5]?.getD undef = .pointer (some ⟨z, 0, none⟩) → tm[6]?.getD undef = .int .i64 e →
      (results Tryz.f72 tm).run Tryz.prog w' = .ok (.tuple #[.int .i64 a, .agg x.cells, .int .i64 e]) w' := fun w' tm a e x h t4 t5 t6 => by
    have zn := SepO.blk h (8 + l.length) c_last
    obtain ⟨q0, q1, q2, q3, q4, q5, q6⟩ := x
    have e0 := zn.cell 0
    have e1 := zn.cell 1
    have e2 := zn.cell 2
    have e3 := zn.cell 3
    have e4 := zn.cell 4
    have e5 := zn.cell 5
    have e6 := zn.cell 6
    simp [Hea.Hd.cells] at e0 e1 e2 e3 e4 e5 e6
    simp [results, Tryz.results72, go_sem, t4, t5, t6, e0, e1, e2, e3, e4, e5, e6, Hea.Hd.cells]
  have HF := Lib.hid hfin
  clear hfin
  by_cases he : (S.get x).2 = 0
  · by_cases ha : (S.get x).1 = 0
    · have hOe : O = (0, Hea.Hd.zero, 4) := by rw [← HO.out]; unfold CS.obj; rw [if_neg (by simpa using he), if_pos ha]
      subst hOe
      have HE := Lib.hid he
      have HA := Lib.hid ha
      clear he ha
      go_enter Tryz.func72, Tryz.ntmps72
      go_wp2_with fail
      refine (TGet_in x HZ.out).mono ?_
      rintro e w1 ⟨rfl, h1⟩
      rw [HE.out, HA.out]
      have zb := SepO.blk h1 (8 + l.length) c_last
      have z0 := zb.cell 0
      have z1 := zb.cell 1
      have z2 := zb.cell 2
      have z3 := zb.cell 3
      have z4 := zb.cell 4
      have z5 := zb.cell 5
      have z6 := zb.cell 6
      simp at z0 z1 z2 z3 z4 z5 z6
      have zf := zb.frozen
      have zl := zb.lt
      have h2 := put7 h1 c_last (i6 0) (i6 0) (i6 0) (i6 0) (.bool false) (.bool false) (.bool false)
      rw [c_last_set] at h2
      have H2 := Lib.hid h2
      clear h1 h2 zb HZ d18 dbl
      go_wp2_with fail
      exact bodyPost_ret (HF.out _ _ _ _ Hea.Hd.zero H2.out rfl rfl rfl) rfl ⟨rfl, c_drop H2.out⟩
    · have hOe : O = ((S.get x).1, S.hd (S.get x).1, 0) := by rw [← HO.out]; unfold CS.obj; rw [if_neg (by simpa using he), if_neg ha]
      obtain ⟨a, haa⟩ : ∃ a, (S.get x).1 = a := ⟨_, rfl⟩
      rw [haa] at ha hOe
      obtain ⟨X, hX⟩ : ∃ X, S.hd a = X := ⟨_, rfl⟩
      rw [hX] at hOe
      subst hOe
      have ha' : (a == 0) = false := beq_false_of_ne ha
      have HE := Lib.hid he
      have HA := Lib.hid haa
      have HX := Lib.hid hX
      obtain ⟨q0, q1, q2, q3, q4, q5, q6⟩ := X
      clear he ha haa hX
      go_enter Tryz.func72, Tryz.ntmps72
      go_wp2_with fail
      refine (TGet_in x HZ.out).mono ?_
      rintro e w1 ⟨rfl, h1⟩
      rw [HE.out, HA.out]
      have H1 := Lib.hid h1
      clear h1 HZ d18 dbl
      go_wp2_with fail
      refine (head_in a H1.out).mono ?_
      rintro e w2 ⟨rfl, h2⟩
      rw [HX.out]
      have zb := SepO.blk h2 (8 + l.length) c_last
      have z0 := zb.cell 0
      have z1 := zb.cell 1
      have z2 := zb.cell 2
      have z3 := zb.cell 3
      have z4 := zb.cell 4
      have z5 := zb.cell 5
      have z6 := zb.cell 6
      simp at z0 z1 z2 z3 z4 z5 z6
      have zf := zb.frozen
      have zl := zb.lt
      have h3 := put7 h2 c_last (i6 q0) (i6 q1) (i6 q2) (i6 q3) (.bool q4) (.bool q5) (.bool q6)
      rw [c_last_set] at h3
      have H3 := Lib.hid h3
      simp only [Hea.Hd.cells]
      clear h2 h3 zb H1
      go_wp2_with fail
      exact bodyPost_ret (HF.out _ _ _ _ ⟨q0, q1, q2, q3, q4, q5, q6⟩ H3.out rfl rfl rfl) rfl ⟨rfl, c_drop H3.out⟩
  · have he3 : (S.get x).2 = 3 := (get_e S x).resolve_left he
    have hOe : O = (0, Hea.Hd.zero, 3) := by rw [← HO.out]; unfold CS.obj; rw [if_pos he, he3]
    subst hOe
    have HE := Lib.hid he3
    clear he he3
    go_enter Tryz.func72, Tryz.ntmps72
    go_wp2_with fail
    refine (TGet_in x HZ.out).mono ?_
    rintro e w1 ⟨rfl, h1⟩
    rw [HE.out]
    have zb := SepO.blk h1 (8 + l.length) c_last
    have z0 := zb.cell 0
    have z1 := zb.cell 1
    have z2 := zb.cell 2
    have z3 := zb.cell 3
    have z4 := zb.cell 4
    have z5 := zb.cell 5
    have z6 := zb.cell 6
    simp at z0 z1 z2 z3 z4 z5 z6
    have zf := zb.frozen
    have zl := zb.lt
    have h2 := put7 h1 c_last (i6 0) (i6 0) (i6 0) (i6 0) (.bool false) (.bool false) (.bool false)
    rw [c_last_set] at h2
    have H2 := Lib.hid h2
    clear h1 h2 zb HZ d18 dbl
    go_wp2_with fail
    exact bodyPost_ret (HF.out _ _ _ _ Hea.Hd.zero H2.out rfl rfl rfl) rfl ⟨rfl, c_drop H2.out⟩
theorem Clear_in (x : Int) (h : SepO W oo w (cparts k S ++ l)) : Calls Tryz.prog 39 #[pt k.c, .int .i64 x] w fun e w' => e = .returned (.int .i64 (S.clearH x).1) ∧ SepO W oo w' (cparts k (S.clearH x).2 ++ l) := by
  obtain ⟨⟨_, _, _, _, _, c18⟩, _, hbl, _⟩ := c_at h
  have H := Lib.hid h
  clear h
  go_enter Tryz.func39, Tryz.ntmps39
  go_wp2_with fail
  refine (TSet_in x 0 H.out).mono ?_
  rintro e w1 ⟨rfl, h1⟩
  have H1 := Lib.hid h1
  clear h1 H
  go_wp2_with fail
  go_ret
  exact ⟨rfl, H1.out⟩
theorem Copy_in (x y : Int) (h : SepO W oo w (cparts k S ++ l)) : Calls Tryz.prog 40 #[pt k.c, .int .i64 x, .int .i64 y] w fun e w' => e = .returned (.int .i64 (S.copyH x y).1) ∧ SepO W oo w' (cparts k (S.copyH x y).2 ++ l) := by
  obtain ⟨⟨_, _, _, _, _, c18⟩, _, hbl, _⟩ := c_at h
  have H := Lib.hid h
  obtain ⟨R, hR⟩ : ∃ R, S.copyH x y = R := ⟨_, rfl⟩
  rw [hR]
  obtain ⟨a, ha⟩ : ∃ a, (S.get y).1 = a := ⟨_, rfl⟩
  have HA := Lib.hid ha
  rcases get_e S y with he | he
  · obtain rfl : R = (Tab.setE S.tb x, S.set x a) := by rw [← hR]; unfold CS.copyH; rw [if_neg (by simpa using he), ha]
    have HE := Lib.hid he
    clear h hR ha he
    go_enter Tryz.func40, Tryz.ntmps40
    go_wp2_with fail
    refine (TGet_in y H.out).mono ?_
    rintro e w1 ⟨rfl, h1⟩
    rw [HE.out, HA.out]
    obtain ⟨⟨_, _, _, _, _, c18⟩, _, hbl, _⟩ := c_at h1
    have H1 := Lib.hid h1
    clear h1 H
    go_wp2_with fail
    refine (TSet_in x a H1.out).mono ?_
    rintro e w2 ⟨rfl, h2⟩
    have H2 := Lib.hid h2
    clear h2 H1
    go_wp2_with fail
    go_ret
    exact ⟨rfl, H2.out⟩
  · obtain rfl : R = (3, S) := by rw [← hR]; unfold CS.copyH; rw [if_pos (by omega), he]
    have HE := Lib.hid he
    clear h hR ha he
    go_enter Tryz.func40, Tryz.ntmps40
    go_wp2_with fail
    refine (TGet_in y H.out).mono ?_
    rintro e w1 ⟨rfl, h1⟩
    rw [HE.out]
    have H1 := Lib.hid h1
    clear h1 H
    go_wp2_with fail
    go_ret
    exact ⟨rfl, H1.out⟩
theorem Same_in (x y : Int) (h : SepO W oo w (cparts k S ++ l)) : Calls Tryz.prog 82 #[pt k.c, .int .i64 x, .int .i64 y] w fun e w' => e = .returned (.tuple #[.bool (S.sameH x y).1, .int .i64 (S.sameH x y).2]) ∧ SepO W oo w' (cparts k S ++ l) := by
  obtain ⟨⟨_, _, _, _, _, c18⟩, _, hbl, _⟩ := c_at h
  have H := Lib.hid h
  obtain ⟨R, hR⟩ : ∃ R, S.sameH x y = R := ⟨_, rfl⟩
  rw [hR]
  obtain ⟨a, ha⟩ : ∃ a, (S.get x).1 = a := ⟨_, rfl⟩
  have HA := Lib.hid ha
  obtain ⟨b, hb⟩ : ∃ b, (S.get y).1 = b := ⟨_, rfl⟩
  have HB := Lib.hid hb
  rcases get_e S x with he | he
  · rcases get_e S y with he2 | he2
    · obtain rfl : R = (decide (a = b), 0) := by rw [← hR]; unfold CS.sameH; rw [if_neg (by omega), ha, hb]
      have HE := Lib.hid he
      have HE2 := Lib.hid he2
      have hab : (a == b) = decide (a = b) := by cases h : (a == b) <;> simp at h <;> simp [h]
      clear h hR ha hb he he2
      go_enter Tryz.func82, Tryz.ntmps82
      go_wp2_with fail
      refine (TGet_in x H.out).mono ?_
      rintro e w1 ⟨rfl, h1⟩
      rw [HE.out, HA.out]
      obtain ⟨⟨_, _, _, _, _, c18⟩, _, hbl, _⟩ := c_at h1
      have H1 := Lib.hid h1
      clear h1 H
      go_wp2_with fail
      refine (TGet_in y H1.out).mono ?_
      rintro e w2 ⟨rfl, h2⟩
      rw [HE2.out, HB.out]
      have H2 := Lib.hid h2
      clear h2 H1
      go_wp2_with fail
      go_ret2
      exact ⟨rfl, H2.out⟩
    · obtain rfl : R = (false, 3) := by rw [← hR]; unfold CS.sameH; rw [if_pos (by omega)]
      have HE := Lib.hid he
      have HE2 := Lib.hid he2
      clear h hR ha hb he he2
      go_enter Tryz.func82, Tryz.ntmps82
      go_wp2_with fail
      refine (TGet_in x H.out).mono ?_
      rintro e w1 ⟨rfl, h1⟩
      rw [HE.out, HA.out]
      obtain ⟨⟨_, _, _, _, _, c18⟩, _, hbl, _⟩ := c_at h1
      have H1 := Lib.hid h1
      clear h1 H
      go_wp2_with fail
      refine (TGet_in y H1.out).mono ?_
      rintro e w2 ⟨rfl, h2⟩
      rw [HE2.out]
      have H2 := Lib.hid h2
      clear h2 H1
      go_wp2_with fail
      go_ret2
      exact ⟨rfl, H2.out⟩
  · obtain rfl : R = (false, 3) := by rw [← hR]; unfold CS.sameH; rw [if_pos (by omega)]
    have HE := Lib.hid he
    clear h hR ha hb he
    go_enter Tryz.func82, Tryz.ntmps82
    go_wp2_with fail
    refine (TGet_in x H.out).mono ?_
    rintro e w1 ⟨rfl, h1⟩
    rw [HE.out]
    obtain ⟨⟨_, _, _, _, _, c18⟩, _, hbl, _⟩ := c_at h1
    have H1 := Lib.hid h1
    clear h1 H
    go_wp2_with fail
    refine (TGet_in y H1.out).mono ?_
    rintro e w2 ⟨rfl, h2⟩
    have H2 := Lib.hid h2
    clear h2 H1
    go_wp2_with fail
    go_ret2
    exact ⟨rfl, H2.out⟩
theorem Nil_in (x : Int) (h : SepO W oo w (cparts k S ++ l)) : Calls Tryz.prog 83 #[pt k.c, .int .i64 x] w fun e w' => e = .returned (.tuple #[.bool (S.nilH x).1, .int .i64 (S.nilH x).2]) ∧ SepO W oo w' (cparts k S ++ l) := by
  obtain ⟨⟨_, _, _, _, _, c18⟩, _, hbl, _⟩ := c_at h
  have H := Lib.hid h
  obtain ⟨R, hR⟩ : ∃ R, S.nilH x = R := ⟨_, rfl⟩
  rw [hR]
  obtain ⟨a, ha⟩ : ∃ a, (S.get x).1 = a := ⟨_, rfl⟩
  have HA := Lib.hid ha
  rcases get_e S x with he | he
  · obtain rfl : R = (decide (a = 0), 0) := by rw [← hR]; unfold CS.nilH; rw [he, ha]; simp
    have HE := Lib.hid he
    have hab : (a == 0) = decide (a = 0) := by cases h : (a == 0) <;> simp at h <;> simp [h]
    clear h hR ha he
    go_enter Tryz.func83, Tryz.ntmps83
    go_wp2_with fail
    refine (TGet_in x H.out).mono ?_
    rintro e w1 ⟨rfl, h1⟩
    rw [HE.out, HA.out]
    have H1 := Lib.hid h1
    clear h1 H
    go_wp2_with fail
    go_ret2
    exact ⟨rfl, H1.out⟩
  · obtain rfl : R = (false, 3) := by rw [← hR]; unfold CS.nilH; rw [he]; rfl
    have HE := Lib.hid he
    clear h hR ha he
    go_enter Tryz.func83, Tryz.ntmps83
    go_wp2_with fail
    refine (TGet_in x H.out).mono ?_
    rintro e w1 ⟨rfl, h1⟩
    rw [HE.out]
    have H1 := Lib.hid h1
    clear h1 H
    go_wp2_with fail
    go_ret2
    exact ⟨rfl, H1.out⟩
end
end Go.Proofs.YtihmkkjmnbehbaaGreat.Wh
/- Calls of the core by handles: Set, Get, Read, Write, Shape. Condition: handles hold numbers that fit. -/
set_option linter.unusedVariables false
set_option linter.unusedSimpArgs false
namespace Go.Proofs.YtihmkkjmnbehbaaGreat.Wh
open Go.RowKit Go.Proofs.YtihmkkjmnbehbaaGreat.W Go.Proofs.YtihmkkjmnbehbaaGreat.Sm
/-- Handles hold numbers that fit. -/
def TB (S : CS) : Prop := ∀ x ∈ S.tb, I64 x
theorem i0 : I64 0 := ⟨by omega, by omega⟩
theorem TB.get {S : CS} (h : TB S) (x : Int) : I64 (S.get x).1 := by
  unfold CS.get Tab.gets
  split
  · rename_i hx
    have hl : x.toNat < S.tb.length := by omega
    simp only [List.getElem?_eq_getElem hl, Option.getD_some]
    exact h _ (List.getElem_mem _)
  · exact i0
theorem TB.set {S : CS} (h : TB S) (x : Int) {v : Int} (hv : I64 v) : TB (S.set x v) := by
  intro y hy
  unfold CS.set Tab.sets at hy
  simp only [] at hy
  split at hy
  · rcases List.mem_or_eq_of_mem_set hy with hy | rfl
    · exact h y hy
    · exact hv
  · exact h y hy
theorem TB.obj {S : CS} (h : TB S) (x : Int) : I64 (S.obj x).1 := by
  unfold CS.obj
  split
  · exact i0
  · split
    · exact i0
    · exact h.get x
theorem took_b {s : Ma.MS} (hs : s.ok) {x a : Int} (h : s.took x = some a) : 0 ≤ a ∧ a ≤ 2000000 := by
  obtain ⟨⟨f0, f1⟩, ⟨w0, w1⟩, hl, hp, _⟩ := hs
  have row : ∀ {c q : Int}, 1 ≤ c → Ma.rowGo c s.l 0 0 = some q → 0 ≤ s.f + q * s.w ∧ s.f + q * s.w ≤ 2000000 := fun hc hq => by
    obtain ⟨n, rfl, h1, _⟩ := Ma.row_free hc hq
    have h2 : 0 ≤ (n : Int) * s.w := Int.mul_nonneg (by omega) (by omega)
    have h3 : (n : Int) * s.w ≤ 64 * 256 := Int.mul_le_mul (by omega) w1 (by omega) (by omega)
    omega
  unfold Ma.MS.took Ma.takeR at h
  by_cases hx : x < 1
  · rw [if_pos hx] at h; cases h
  · rw [if_neg hx] at h
    split at h
    · cases hr : Ma.rowGo (Cl.pgs s.w x) s.l 0 0 with
      | none => rw [hr] at h; cases h
      | some q =>
        rw [hr] at h
        simp only [Option.some.injEq] at h
        subst h
        exact row (Cl.pgs_b w0 (by omega)).1 hr
    · cases hf : Ma.fb (Cl.rnd x) s.l 0 with
      | some y =>
        obtain ⟨i, k⟩ := y
        obtain ⟨p, _, hi, h1, h2, _, h4⟩ := Ma.fb_some hf
        rw [Nat.sub_zero] at hi
        rw [Ma.ibR_some hf hi] at h
        simp only [Option.some.injEq] at h
        subst h
        have hk := (List.getElem?_eq_some_iff.1 (Ma.fz_false h4)).1
        obtain ⟨c0, c1, c2⟩ := Ma.cell_fits w0 (hp p (List.mem_of_getElem? hi)) h1 hk
        rw [h2] at c0 c1 c2
        have hil := (List.getElem?_eq_some_iff.1 hi).1
        have h2 : 0 ≤ (i : Int) * s.w := Int.mul_nonneg (by omega) (by omega)
        have h3 : (i : Int) * s.w ≤ 64 * 256 := Int.mul_le_mul (by omega) w1 (by omega) (by omega)
        omega
      | none =>
        cases hr : Ma.rowGo 1 s.l 0 0 with
        | none => rw [Ma.ibR_none hf hr] at h; cases h
        | some q =>
          rw [Ma.ibR_new hf hr] at h
          simp only [Option.some.injEq] at h
          subst h
          exact row (by omega) hr
theorem yAt_b {y : Bp.Sp} (hy : y.ok) (n : Int) : I64 (yAt y n) := by
  unfold Bp.Sp.ok at hy
  unfold yAt Bp.Sp.here Bp.Sp.used I64
  (repeat' split) <;> omega
theorem place_b {S : CS} (hy : S.y.ok) (ho : S.o.ok) (x g : Int) : I64 (S.place x g).1.1 := by
  unfold CS.place
  split
  · split
    · rename_i a h
      have := took_b ho h
      exact ⟨by show -9223372036854775808 ≤ a; omega, by show a ≤ _; omega⟩
    · exact yAt_b hy x
  · exact yAt_b hy x
theorem move_b {S : CS} (hy : S.y.ok) (ho : S.o.ok) {a : Int} (ha : I64 a) : I64 (S.move a).1 := by
  unfold CS.move
  split
  · exact ha
  · split
    · exact now_b S ha
    · exact place_b hy ho _ _
theorem obj_hd (S : CS) (x : Int) : 0 ≤ (S.obj x).2.1.size ∧ (S.obj x).2.1.size ≤ 64 ∧ 0 ≤ (S.obj x).2.1.ptrs ∧ (S.obj x).2.1.ptrs ≤ (S.obj x).2.1.size := by
  unfold CS.obj
  split
  · simp [Hea.Hd.zero]
  · split
    · simp [Hea.Hd.zero]
    · obtain ⟨h1, h2, h3, h4, _⟩ := hd_b S (S.get x).1
      exact ⟨h1, h2, h3, h4⟩
section
variable {W w : World} {oo : Nat → Prop} {k : CK} {S : CS} {l : List Pr} {F : FuncId} {args : Array Value}
theorem y_ok (h : SepO W oo w (cparts k S ++ l)) : S.y.ok := by
  obtain ⟨o, hp, _⟩ := h.get 2 rfl
  exact hp.2.1
theorem o_ok (h : SepO W oo w (cparts k S ++ l)) : S.o.ok := Ma.Mat_ok h 3 rfl
set_option maxHeartbeats 2000000 in
theorem Set_in (x n f : Int) (hn : I64 n) (hT : TB S) (h : SepO W oo w (cparts k S ++ l)) : Calls Tryz.prog 37 #[pt k.c, .int .i64 x, .int .i64 n, .int .i64 f] w fun e w' => e = .returned (.int .i64 (S.setF x n f).1) ∧ SepO W oo w' (cparts k (S.setF x n f).2 ++ l) := by
  obtain ⟨R, hR⟩ : ∃ R, S.setF x n f = R := ⟨_, rfl⟩
  rw [hR]
  have hT1 := hT.obj x
  have hT2 := hT.get f
  obtain ⟨b0, b1, b2, b3⟩ := obj_hd S x
  obtain ⟨⟨a, X, e⟩, hO⟩ : ∃ O, S.obj x = O := ⟨_, rfl⟩
  rw [hO] at hT1 b0 b1 b2 b3
  simp only [] at hT1 b0 b1 b2 b3
  obtain ⟨v, hv⟩ : ∃ v, (S.get f).1 = v := ⟨_, rfl⟩
  rw [hv] at hT2
  have HO := Lib.hid hO
  have HV := Lib.hid hv
  have H := Lib.hid h
  have hRe : R = if e ≠ 0 then (e, S) else if (S.get f).2 ≠ 0 then ((S.get f).2, S) else if n < 0 ∨ X.ptrs ≤ n then (5, S) else (0, if S.y.isIn v = true then ({ S with ws := Ob.stW S.ws (Ob.placeOf a n) (IntKind.u64.wrap v) } : CS).note a else { S with ws := Ob.stW S.ws (Ob.placeOf a n) (IntKind.u64.wrap v) }) := by
    rw [← hR]; unfold CS.setF; simp only [hO, hv]
  obtain ⟨q0, q1, q2, q3, q4, q5, q6⟩ := X
  simp only [] at b0 b1 b2 b3 hRe
  have HRE := Lib.hid hRe
  have hu : Ob.w64 (IntKind.u64.wrap v) := by rw [IntKind.wrap_u64]; unfold Ob.w64; omega
  have HU := Lib.hid hu
  clear h hO hv hR hRe hu
  obtain ⟨hn1, hn2⟩ := hn
  by_cases he : e = 0
  · subst he
    rcases get_e S f with he2 | he2
    · have HE2 := Lib.hid he2
      by_cases hc : n < 0 ∨ q1 ≤ n
      · obtain rfl : R = (5, S) := by rw [HRE.out, if_neg (by simp), if_neg (by simpa using he2), if_pos hc]
        clear he2
        rcases (by omega : n < 0 ∨ (¬ n < 0 ∧ q1 ≤ n)) with hx1 | ⟨hx1, hx2⟩
        all_goals
          clear hc
          go_enter Tryz.func37, Tryz.ntmps37
          go_wp2_with fail
          refine (object_in x H.out).mono ?_
          rintro e w1 ⟨rfl, h1⟩
          rw [HO.out]
          simp only [Hea.Hd.cells]
          obtain ⟨z, hzz⟩ : ∃ z, w1.heap.size = z := ⟨_, rfl⟩
          have hz := c_add h1 99 #[i6 q0, i6 q1, i6 q2, i6 q3, .bool q4, .bool q5, .bool q6]
          rw [hzz] at hz
          obtain ⟨⟨c13, c14, _, _, _, c18⟩, _, hbl, _⟩ := c_at hz
          have H1 := Lib.hid hz
          clear h1 H hz
          go_wp2_with fail
          refine (TGet_in f H1.out).mono ?_
          rintro e w2 ⟨rfl, h2⟩
          have zb := SepO.blk h2 (8 + l.length) c_last
          have z0 := zb.cell 0
          have z1 := zb.cell 1
          simp at z0 z1
          have zl := zb.lt
          obtain ⟨⟨d13, d14, _, _, _, d18⟩, _, dbl, _⟩ := c_at h2
          have H2 := Lib.hid h2
          clear h2 H1 c13 c14 c18 hbl zb hzz
          rw [HE2.out, HV.out]
          go_wp2_with fail
          go_ret
          exact ⟨rfl, c_drop H2.out⟩
      · cases hin : S.y.isIn v
        · obtain rfl : R = (0, { S with ws := Ob.stW S.ws (Ob.placeOf a n) (IntKind.u64.wrap v) }) := by rw [HRE.out, if_neg (by simp), if_neg (by simpa using he2), if_neg hc, if_neg (by rw [hin]; simp)]
          have hx1 : ¬ n < 0 := by omega
          have hx2 : ¬ q1 ≤ n := by omega
          have HIN := Lib.hid hin
          clear he2 hc hin
          go_enter Tryz.func37, Tryz.ntmps37
          go_wp2_with fail
          refine (object_in x H.out).mono ?_
          rintro e w1 ⟨rfl, h1⟩
          rw [HO.out]
          simp only [Hea.Hd.cells]
          obtain ⟨z, hzz⟩ : ∃ z, w1.heap.size = z := ⟨_, rfl⟩
          have hz := c_add h1 99 #[i6 q0, i6 q1, i6 q2, i6 q3, .bool q4, .bool q5, .bool q6]
          rw [hzz] at hz
          obtain ⟨⟨c13, c14, _, _, _, c18⟩, _, hbl, _⟩ := c_at hz
          have H1 := Lib.hid hz
          clear h1 H hz
          go_wp2_with fail
          refine (TGet_in f H1.out).mono ?_
          rintro e w2 ⟨rfl, h2⟩
          have zb := SepO.blk h2 (8 + l.length) c_last
          have z0 := zb.cell 0
          have z1 := zb.cell 1
          simp at z0 z1
          have zl := zb.lt
          obtain ⟨⟨d13, d14, _, _, _, d18⟩, _, dbl, _⟩ := c_at h2
          have H2 := Lib.hid h2
          clear h2 H1 c13 c14 c18 hbl zb hzz
          rw [HE2.out, HV.out]
          go_wp2_with fail
          refine (oba_write H2.out (fun o ho => Ob.SetField_calls a n (IntKind.u64.wrap v) ho HU.out)).mono ?_
          rintro e w3 ⟨rfl, h3⟩
          obtain ⟨⟨e13, e14, _⟩, _, ebl, _⟩ := c_at h3
          have H3 := Lib.hid h3
          clear h3 H2 d13 d14 d18 dbl z0 z1 zl
          go_wp2_with fail
          refine (bmp_read H3.out (fun o ho => Bp.In_calls v w3 ho hT2.2)).mono ?_
          rintro e w4 ⟨rfl, h4⟩
          rw [HIN.out]
          have H4 := Lib.hid h4
          clear h4 H3
          go_wp2_with fail
          go_ret
          exact ⟨rfl, c_drop H4.out⟩
        · obtain rfl : R = (0, ({ S with ws := Ob.stW S.ws (Ob.placeOf a n) (IntKind.u64.wrap v) } : CS).note a) := by rw [HRE.out, if_neg (by simp), if_neg (by simpa using he2), if_neg hc, if_pos hin]
          have hx1 : ¬ n < 0 := by omega
          have hx2 : ¬ q1 ≤ n := by omega
          have HIN := Lib.hid hin
          clear he2 hc hin
          go_enter Tryz.func37, Tryz.ntmps37
          go_wp2_with fail
          refine (object_in x H.out).mono ?_
          rintro e w1 ⟨rfl, h1⟩
          rw [HO.out]
          simp only [Hea.Hd.cells]
          obtain ⟨z, hzz⟩ : ∃ z, w1.heap.size = z := ⟨_, rfl⟩
          have hz := c_add h1 99 #[i6 q0, i6 q1, i6 q2, i6 q3, .bool q4, .bool q5, .bool q6]
          rw [hzz] at hz
          obtain ⟨⟨c13, c14, _, _, _, c18⟩, _, hbl, _⟩ := c_at hz
          have H1 := Lib.hid hz
          clear h1 H hz
          go_wp2_with fail
          refine (TGet_in f H1.out).mono ?_
          rintro e w2 ⟨rfl, h2⟩
          have zb := SepO.blk h2 (8 + l.length) c_last
          have z0 := zb.cell 0
          have z1 := zb.cell 1
          simp at z0 z1
          have zl := zb.lt
          obtain ⟨⟨d13, d14, _, _, _, d18⟩, _, dbl, _⟩ := c_at h2
          have H2 := Lib.hid h2
          clear h2 H1 c13 c14 c18 hbl zb hzz
          rw [HE2.out, HV.out]
          go_wp2_with fail
          refine (oba_write H2.out (fun o ho => Ob.SetField_calls a n (IntKind.u64.wrap v) ho HU.out)).mono ?_
          rintro e w3 ⟨rfl, h3⟩
          obtain ⟨⟨e13, e14, _⟩, _, ebl, _⟩ := c_at h3
          have H3 := Lib.hid h3
          clear h3 H2 d13 d14 d18 dbl z0 z1 zl
          go_wp2_with fail
          refine (bmp_read H3.out (fun o ho => Bp.In_calls v w3 ho hT2.2)).mono ?_
          rintro e w4 ⟨rfl, h4⟩
          rw [HIN.out]
          have H4 := Lib.hid h4
          clear h4 H3
          go_wp2_with fail
          refine (Note_in a hT1 H4.out).mono ?_
          rintro e w5 ⟨rfl, h5⟩
          have H5 := Lib.hid h5
          clear h5 H4
          go_wp2_with fail
          go_ret
          exact ⟨rfl, c_drop H5.out⟩
    · obtain rfl : R = (3, S) := by rw [HRE.out, if_neg (by simp), if_pos (by omega), he2]
      have HE2 := Lib.hid he2
      clear he2
      go_enter Tryz.func37, Tryz.ntmps37
      go_wp2_with fail
      refine (object_in x H.out).mono ?_
      rintro e w1 ⟨rfl, h1⟩
      rw [HO.out]
      simp only [Hea.Hd.cells]
      obtain ⟨z, hzz⟩ : ∃ z, w1.heap.size = z := ⟨_, rfl⟩
      have hz := c_add h1 99 #[i6 q0, i6 q1, i6 q2, i6 q3, .bool q4, .bool q5, .bool q6]
      rw [hzz] at hz
      obtain ⟨⟨c13, c14, _, _, _, c18⟩, _, hbl, _⟩ := c_at hz
      have H1 := Lib.hid hz
      clear h1 H hz
      go_wp2_with fail
      refine (TGet_in f H1.out).mono ?_
      rintro e w2 ⟨rfl, h2⟩
      have zb := SepO.blk h2 (8 + l.length) c_last
      have z0 := zb.cell 0
      have z1 := zb.cell 1
      simp at z0 z1
      have zl := zb.lt
      obtain ⟨⟨d13, d14, _, _, _, d18⟩, _, dbl, _⟩ := c_at h2
      have H2 := Lib.hid h2
      clear h2 H1 c13 c14 c18 hbl zb hzz
      rw [HE2.out]
      go_wp2_with fail
      go_ret
      exact ⟨rfl, c_drop H2.out⟩
  · obtain rfl : R = (e, S) := by rw [HRE.out, if_pos he]
    have heb : (e != 0) = true := by simpa using he
    clear he
    go_enter Tryz.func37, Tryz.ntmps37
    go_wp2_with fail
    refine (object_in x H.out).mono ?_
    rintro e w1 ⟨rfl, h1⟩
    rw [HO.out]
    simp only [Hea.Hd.cells]
    obtain ⟨z, hzz⟩ : ∃ z, w1.heap.size = z := ⟨_, rfl⟩
    have hz := c_add h1 99 #[i6 q0, i6 q1, i6 q2, i6 q3, .bool q4, .bool q5, .bool q6]
    rw [hzz] at hz
    obtain ⟨⟨c13, c14, _, _, _, c18⟩, _, hbl, _⟩ := c_at hz
    have H1 := Lib.hid hz
    clear h1 H hz
    go_wp2_with fail
    go_ret
    exact ⟨rfl, c_drop H1.out⟩
set_option maxHeartbeats 2000000 in
theorem Get_in (t x n : Int) (hn : I64 n) (hT : TB S) (hrb : RB 1000000000 S) (h : SepO W oo w (cparts k S ++ l)) : Calls Tryz.prog 36 #[pt k.c, .int .i64 t, .int .i64 x, .int .i64 n] w fun e w' => e = .returned (.int .i64 (S.getF t x n).1) ∧ ∃ A m, SepO W oo w' (cparts (k.rw A m) (S.getF t x n).2 ++ l) := by
  obtain ⟨R, hR⟩ : ∃ R, S.getF t x n = R := ⟨_, rfl⟩
  rw [hR]
  obtain ⟨b0, b1, b2, b3⟩ := obj_hd S x
  obtain ⟨⟨a, X, e⟩, hO⟩ : ∃ O, S.obj x = O := ⟨_, rfl⟩
  rw [hO] at b0 b1 b2 b3
  simp only [] at b0 b1 b2 b3
  have hrf := ref_b S a n
  obtain ⟨y, hy⟩ : ∃ y, S.ref a n = y := ⟨_, rfl⟩
  obtain ⟨M, hM⟩ : ∃ M, S.move y = M := ⟨_, rfl⟩
  have hmb : I64 M.1 := hM ▸ move_b (y_ok h) (o_ok h) (hy ▸ hrf)
  rw [hy] at hrf
  have HO := Lib.hid hO
  have HY := Lib.hid hy
  have HM := Lib.hid hM
  have H := Lib.hid h
  have hRe : R = if e ≠ 0 then (e, S) else if (S.get t).2 ≠ 0 then ((S.get t).2, S) else if n < 0 ∨ X.ptrs ≤ n then (5, S) else (Tab.setE (M.2.mark M.1).tb t, (M.2.mark M.1).set t M.1) := by
    rw [← hR]; unfold CS.getF; simp only [hO, hy, hM]
  obtain ⟨q0, q1, q2, q3, q4, q5, q6⟩ := X
  simp only [] at b0 b1 b2 b3 hRe
  have HRE := Lib.hid hRe
  clear h hO hy hM hR hRe
  obtain ⟨hn1, hn2⟩ := hn
  by_cases he : e = 0
  · subst he
    rcases get_e S t with he2 | he2
    · have HE2 := Lib.hid he2
      by_cases hc : n < 0 ∨ q1 ≤ n
      · obtain rfl : R = (5, S) := by rw [HRE.out, if_neg (by simp), if_neg (by simpa using he2), if_pos hc]
        clear he2
        rcases (by omega : n < 0 ∨ (¬ n < 0 ∧ q1 ≤ n)) with hx1 | ⟨hx1, hx2⟩
        all_goals
          clear hc
          go_enter Tryz.func36, Tryz.ntmps36
          go_wp2_with fail
          refine (object_in x H.out).mono ?_
          rintro e w1 ⟨rfl, h1⟩
          rw [HO.out]
          simp only [Hea.Hd.cells]
          obtain ⟨z, hzz⟩ : ∃ z, w1.heap.size = z := ⟨_, rfl⟩
          have hz := c_add h1 99 #[i6 q0, i6 q1, i6 q2, i6 q3, .bool q4, .bool q5, .bool q6]
          rw [hzz] at hz
          obtain ⟨⟨c13, c14, _, _, _, c18⟩, _, hbl, _⟩ := c_at hz
          have H1 := Lib.hid hz
          clear h1 H hz
          go_wp2_with fail
          refine (TGet_in t H1.out).mono ?_
          rintro e w2 ⟨rfl, h2⟩
          have zb := SepO.blk h2 (8 + l.length) c_last
          have z0 := zb.cell 0
          have z1 := zb.cell 1
          simp at z0 z1
          have zl := zb.lt
          obtain ⟨⟨d13, d14, _, _, _, d18⟩, _, dbl, _⟩ := c_at h2
          have H2 := Lib.hid h2
          clear h2 H1 c13 c14 c18 hbl zb hzz
          rw [HE2.out]
          go_wp2_with fail
          go_ret
          exact ⟨rfl, _, _, c_drop H2.out⟩
      · obtain rfl : R = (Tab.setE (M.2.mark M.1).tb t, (M.2.mark M.1).set t M.1) := by rw [HRE.out, if_neg (by simp), if_neg (by simpa using he2), if_neg hc]
        have hx1 : ¬ n < 0 := by omega
        have hx2 : ¬ q1 ≤ n := by omega
        clear he2 hc
        go_enter Tryz.func36, Tryz.ntmps36
        go_wp2_with fail
        refine (object_in x H.out).mono ?_
        rintro e w1 ⟨rfl, h1⟩
        rw [HO.out]
        simp only [Hea.Hd.cells]
        obtain ⟨z, hzz⟩ : ∃ z, w1.heap.size = z := ⟨_, rfl⟩
        have hz := c_add h1 99 #[i6 q0, i6 q1, i6 q2, i6 q3, .bool q4, .bool q5, .bool q6]
        rw [hzz] at hz
        obtain ⟨⟨c13, c14, _, _, _, c18⟩, _, hbl, _⟩ := c_at hz
        have H1 := Lib.hid hz
        clear h1 H hz
        go_wp2_with fail
        refine (TGet_in t H1.out).mono ?_
        rintro e w2 ⟨rfl, h2⟩
        have zb := SepO.blk h2 (8 + l.length) c_last
        have z0 := zb.cell 0
        have z1 := zb.cell 1
        simp at z0 z1
        have zl := zb.lt
        obtain ⟨⟨d13, d14, _, _, _, d18⟩, _, dbl, _⟩ := c_at h2
        have H2 := Lib.hid h2
        clear h2 H1 c13 c14 c18 hbl zb hzz
        rw [HE2.out]
        go_wp2_with fail
        refine (Ref_in a n H2.out).mono ?_
        rintro e w3 ⟨rfl, h3⟩
        rw [HY.out]
        have H3 := Lib.hid h3
        clear h3 H2 d13 d14 d18 dbl z0 z1 zl
        go_wp2_with fail
        refine (Move_in y hrf hrb H3.out).mono ?_
        rintro e w4 ⟨rfl, A, m, h4⟩
        rw [HM.out] at h4 ⊢
        have H4 := Lib.hid h4
        clear h4 H3
        go_wp2_with fail
        refine (Mark_in (k := k.rw A m) M.1 hmb H4.out).mono ?_
        rintro e w5 ⟨rfl, h5⟩
        obtain ⟨⟨_, _, _, _, _, d18⟩, _, dbl, _⟩ := c_at h5
        replace d18 : w5.cell? ⟨k.c, 18, none⟩ = some (pt k.t) := d18
        replace dbl : k.c < w5.heap.size := dbl
        have H5 := Lib.hid h5
        clear h5 H4
        go_wp2_with fail
        refine (TSet_in (k := k.rw A m) t M.1 H5.out).mono ?_
        rintro e w6 ⟨rfl, h6⟩
        have H6 := Lib.hid h6
        clear h6 H5
        go_wp2_with fail
        go_ret
        exact ⟨rfl, _, _, c_drop H6.out⟩
    · obtain rfl : R = (3, S) := by rw [HRE.out, if_neg (by simp), if_pos (by omega), he2]
      have HE2 := Lib.hid he2
      clear he2
      go_enter Tryz.func36, Tryz.ntmps36
      go_wp2_with fail
      refine (object_in x H.out).mono ?_
      rintro e w1 ⟨rfl, h1⟩
      rw [HO.out]
      simp only [Hea.Hd.cells]
      obtain ⟨z, hzz⟩ : ∃ z, w1.heap.size = z := ⟨_, rfl⟩
      have hz := c_add h1 99 #[i6 q0, i6 q1, i6 q2, i6 q3, .bool q4, .bool q5, .bool q6]
      rw [hzz] at hz
      obtain ⟨⟨c13, c14, _, _, _, c18⟩, _, hbl, _⟩ := c_at hz
      have H1 := Lib.hid hz
      clear h1 H hz
      go_wp2_with fail
      refine (TGet_in t H1.out).mono ?_
      rintro e w2 ⟨rfl, h2⟩
      have zb := SepO.blk h2 (8 + l.length) c_last
      have z0 := zb.cell 0
      have z1 := zb.cell 1
      simp at z0 z1
      have zl := zb.lt
      obtain ⟨⟨d13, d14, _, _, _, d18⟩, _, dbl, _⟩ := c_at h2
      have H2 := Lib.hid h2
      clear h2 H1 c13 c14 c18 hbl zb hzz
      rw [HE2.out]
      go_wp2_with fail
      go_ret
      exact ⟨rfl, _, _, c_drop H2.out⟩
  · obtain rfl : R = (e, S) := by rw [HRE.out, if_pos he]
    have heb : (e != 0) = true := by simpa using he
    clear he
    go_enter Tryz.func36, Tryz.ntmps36
    go_wp2_with fail
    refine (object_in x H.out).mono ?_
    rintro e w1 ⟨rfl, h1⟩
    rw [HO.out]
    simp only [Hea.Hd.cells]
    obtain ⟨z, hzz⟩ : ∃ z, w1.heap.size = z := ⟨_, rfl⟩
    have hz := c_add h1 99 #[i6 q0, i6 q1, i6 q2, i6 q3, .bool q4, .bool q5, .bool q6]
    rw [hzz] at hz
    obtain ⟨⟨c13, c14, _, _, _, c18⟩, _, hbl, _⟩ := c_at hz
    have H1 := Lib.hid hz
    clear h1 H hz
    go_wp2_with fail
    go_ret
    exact ⟨rfl, _, _, c_drop H1.out⟩
end
end Go.Proofs.YtihmkkjmnbehbaaGreat.Wh
