/- Texts of the whole heap, joined: WhH WhI WhJ WhK WhL WhM. No condition beside those that each lemma names. -/
import Derived.Test.YtihmkkjmnbehbaaGreatMg19
import Derived.BigQuiet
/- Calls of the core by handles: Read, Write, Shape. No condition. -/
set_option linter.unusedVariables false
set_option linter.unusedSimpArgs false
namespace Go.Proofs.YtihmkkjmnbehbaaGreat.Wh
open Go.RowKit Go.Proofs.YtihmkkjmnbehbaaGreat.W Go.Proofs.YtihmkkjmnbehbaaGreat.Sm
section
variable {W w : World} {oo : Nat → Prop} {k : CK} {S : CS} {l : List Pr} {F : FuncId} {args : Array Value}
set_option maxHeartbeats 2000000 in
theorem Read_in (x n : Int) (hn : I64 n) (h : SepO W oo w (cparts k S ++ l)) : Calls Tryz.prog 81 #[pt k.c, .int .i64 x, .int .i64 n] w fun e w' => e = .returned (.tuple #[.int .u64 (S.readF x n).1, .int .i64 (S.readF x n).2]) ∧ SepO W oo w' (cparts k S ++ l) := by
  obtain ⟨R, hR⟩ : ∃ R, S.readF x n = R := ⟨_, rfl⟩
  rw [hR]
  obtain ⟨b0, b1, b2, b3⟩ := obj_hd S x
  obtain ⟨⟨a, X, e⟩, hO⟩ : ∃ O, S.obj x = O := ⟨_, rfl⟩
  rw [hO] at b0 b1 b2 b3
  simp only [] at b0 b1 b2 b3
  have HO := Lib.hid hO
  have H := Lib.hid h
  have hRe : R = if e ≠ 0 then (0, e) else if n < 0 ∨ X.size - X.ptrs ≤ n then (0, 5) else (Ob.ldW S.ws (Ob.placeOf a (X.ptrs + n)), Ob.erW S.ws (Ob.placeOf a (X.ptrs + n))) := by
    rw [← hR]; unfold CS.readF; simp only [hO]
  obtain ⟨q0, q1, q2, q3, q4, q5, q6⟩ := X
  simp only [] at b0 b1 b2 b3 hRe
  have HRE := Lib.hid hRe
  clear h hO hR hRe
  obtain ⟨hn1, hn2⟩ := hn
  by_cases he : e = 0
  · subst he
    by_cases hc : n < 0 ∨ q0 - q1 ≤ n
    · obtain rfl : R = (0, 5) := by rw [HRE.out, if_neg (by simp), if_pos hc]
      rcases (by omega : n < 0 ∨ (¬ n < 0 ∧ q0 - q1 ≤ n)) with hx1 | ⟨hx1, hx2⟩
      all_goals
        clear hc
        go_enter Tryz.func81, Tryz.ntmps81
        go_wp2_with fail
        refine (object_in x H.out).mono ?_
        rintro e w1 ⟨rfl, h1⟩
        rw [HO.out]
        simp only [Hea.Hd.cells]
        obtain ⟨z, hzz⟩ : ∃ z, w1.heap.size = z := ⟨_, rfl⟩
        have hz := c_add h1 99 #[i6 q0, i6 q1, i6 q2, i6 q3, .bool q4, .bool q5, .bool q6]
        rw [hzz] at hz
        obtain ⟨⟨c13, c14, _, _, _, c18⟩, _, hbl, _⟩ := c_at hz
        have H1 := Lib.hid hz
        clear h1 H hz
        go_wp2_with fail
        go_ret2
        exact ⟨rfl, c_drop H1.out⟩
    · have hx1 : ¬ n < 0 := by omega
      have hx2 : ¬ q0 - q1 ≤ n := by omega
      have s1 := IntWalk.i64_in (q1 + n) (by omega)
      obtain rfl : R = (Ob.ldW S.ws (Ob.placeOf a (q1 + n)), Ob.erW S.ws (Ob.placeOf a (q1 + n))) := by rw [HRE.out, if_neg (by simp), if_neg hc]
      obtain ⟨v, hv⟩ : ∃ v, Ob.ldW S.ws (Ob.placeOf a (q1 + n)) = v := ⟨_, rfl⟩
      obtain ⟨er, her⟩ : ∃ v, Ob.erW S.ws (Ob.placeOf a (q1 + n)) = v := ⟨_, rfl⟩
      rw [hv, her]
      have hcf : ∀ w' L, SepO W oo w' (cparts k S ++ L) → Calls Tryz.prog 55 #[pt k.a, .int .i64 a, .int .i64 (q1 + n)] w' fun e w'' => e = .returned (.tuple #[.int .u64 v, .int .i64 er]) ∧ SepO W oo w'' (cparts k S ++ L) := fun w' L h => by
        have := oba_read h (fun o ho => Ob.Field_calls a (q1 + n) ho)
        rw [hv, her] at this
        exact this
      have HCF := Lib.hid hcf
      clear hc hcf hv her
      go_enter Tryz.func81, Tryz.ntmps81
      go_wp2_with fail
      refine (object_in x H.out).mono ?_
      rintro e w1 ⟨rfl, h1⟩
      rw [HO.out]
      simp only [Hea.Hd.cells]
      obtain ⟨z, hzz⟩ : ∃ z, w1.heap.size = z := ⟨_, rfl⟩
      have hz := c_add h1 99 #[i6 q0, i6 q1, i6 q2, i6 q3, .bool q4, .bool q5, .bool q6]
      rw [hzz] at hz
      obtain ⟨⟨c13, c14, _, _, _, c18⟩, _, hbl, _⟩ := c_at hz
      have zb := SepO.blk hz (8 + l.length) c_last
      have z0 := zb.cell 0
      have z1 := zb.cell 1
      simp at z0 z1
      have zl := zb.lt
      have H1 := Lib.hid hz
      clear h1 H hz zb
      go_wp2_with fail
      go_region_held3 (fun w' => w'.cell? ⟨k.c, 13, none⟩ = some (pt k.a) ∧ w'.cell? ⟨z, 1, none⟩ = some (i6 q1)) (first | exact ⟨c13, z1⟩ | exact ⟨x13, x1⟩ | go_keep) ((go_at_call 55; (with_reducible refine (HCF.out _ (l ++ [blkP z 99 #[i6 q0, i6 q1, i6 q2, i6 q3, .bool q4, .bool q5, .bool q6]]) ?hx).mono ?_); (case hx => exact H1.out.drewN _); rintro e w3 ⟨rfl, h3⟩; have x13 := (c_at h3).1.1; have xb := SepO.blk h3 (8 + l.length) c_last; have x1 := xb.cell 1; simp at x1))
      go_wp2_with fail
      go_ret2
      exact ⟨rfl, c_drop h3⟩
  · obtain rfl : R = (0, e) := by rw [HRE.out, if_pos he]
    have heb : (e != 0) = true := by simpa using he
    clear he
    go_enter Tryz.func81, Tryz.ntmps81
    go_wp2_with fail
    refine (object_in x H.out).mono ?_
    rintro e w1 ⟨rfl, h1⟩
    rw [HO.out]
    simp only [Hea.Hd.cells]
    obtain ⟨z, hzz⟩ : ∃ z, w1.heap.size = z := ⟨_, rfl⟩
    have hz := c_add h1 99 #[i6 q0, i6 q1, i6 q2, i6 q3, .bool q4, .bool q5, .bool q6]
    rw [hzz] at hz
    obtain ⟨⟨c13, c14, _, _, _, c18⟩, _, hbl, _⟩ := c_at hz
    have H1 := Lib.hid hz
    clear h1 H hz
    go_wp2_with fail
    go_ret2
    exact ⟨rfl, c_drop H1.out⟩
set_option maxHeartbeats 2000000 in
theorem Write_in (x n v : Int) (hn : I64 n) (hv : Ob.w64 v) (h : SepO W oo w (cparts k S ++ l)) : Calls Tryz.prog 38 #[pt k.c, .int .i64 x, .int .i64 n, .int .u64 v] w fun e w' => e = .returned (.int .i64 (S.writeF x n v).1) ∧ SepO W oo w' (cparts k (S.writeF x n v).2 ++ l) := by
  obtain ⟨R, hR⟩ : ∃ R, S.writeF x n v = R := ⟨_, rfl⟩
  rw [hR]
  obtain ⟨b0, b1, b2, b3⟩ := obj_hd S x
  obtain ⟨⟨a, X, e⟩, hO⟩ : ∃ O, S.obj x = O := ⟨_, rfl⟩
  rw [hO] at b0 b1 b2 b3
  simp only [] at b0 b1 b2 b3
  have HO := Lib.hid hO
  have H := Lib.hid h
  have hRe : R = if e ≠ 0 then (e, S) else if n < 0 ∨ X.size - X.ptrs ≤ n then (5, S) else (Ob.erW S.ws (Ob.placeOf a (X.ptrs + n)), { S with ws := Ob.stW S.ws (Ob.placeOf a (X.ptrs + n)) v }) := by
    rw [← hR]; unfold CS.writeF; simp only [hO]
  obtain ⟨q0, q1, q2, q3, q4, q5, q6⟩ := X
  simp only [] at b0 b1 b2 b3 hRe
  have HRE := Lib.hid hRe
  clear h hO hR hRe
  obtain ⟨hn1, hn2⟩ := hn
  by_cases he : e = 0
  · subst he
    by_cases hc : n < 0 ∨ q0 - q1 ≤ n
    · obtain rfl : R = (5, S) := by rw [HRE.out, if_neg (by simp), if_pos hc]
      rcases (by omega : n < 0 ∨ (¬ n < 0 ∧ q0 - q1 ≤ n)) with hx1 | ⟨hx1, hx2⟩
      all_goals
        clear hc
        go_enter Tryz.func38, Tryz.ntmps38
        go_wp2_with fail
        refine (object_in x H.out).mono ?_
        rintro e w1 ⟨rfl, h1⟩
        rw [HO.out]
        simp only [Hea.Hd.cells]
        obtain ⟨z, hzz⟩ : ∃ z, w1.heap.size = z := ⟨_, rfl⟩
        have hz := c_add h1 99 #[i6 q0, i6 q1, i6 q2, i6 q3, .bool q4, .bool q5, .bool q6]
        rw [hzz] at hz
        obtain ⟨⟨c13, c14, _, _, _, c18⟩, _, hbl, _⟩ := c_at hz
        have H1 := Lib.hid hz
        clear h1 H hz
        go_wp2_with fail
        go_ret
        exact ⟨rfl, c_drop H1.out⟩
    · have hx1 : ¬ n < 0 := by omega
      have hx2 : ¬ q0 - q1 ≤ n := by omega
      have s1 := IntWalk.i64_in (q1 + n) (by omega)
      obtain rfl : R = (Ob.erW S.ws (Ob.placeOf a (q1 + n)), { S with ws := Ob.stW S.ws (Ob.placeOf a (q1 + n)) v }) := by rw [HRE.out, if_neg (by simp), if_neg hc]
      obtain ⟨er, her⟩ : ∃ v, Ob.erW S.ws (Ob.placeOf a (q1 + n)) = v := ⟨_, rfl⟩
      rw [her]
      have hcf : ∀ w' L, SepO W oo w' (cparts k S ++ L) → Calls Tryz.prog 76 #[pt k.a, .int .i64 a, .int .i64 (q1 + n), .int .u64 v] w' fun e w'' => e = .returned (.int .i64 er) ∧ SepO W oo w'' (cparts k { S with ws := Ob.stW S.ws (Ob.placeOf a (q1 + n)) v } ++ L) := fun w' L h => by
        have := oba_write h (fun o ho => Ob.SetField_calls a (q1 + n) v ho hv)
        rw [her] at this
        exact this
      have HCF := Lib.hid hcf
      clear hc hcf her
      go_enter Tryz.func38, Tryz.ntmps38
      go_wp2_with fail
      refine (object_in x H.out).mono ?_
      rintro e w1 ⟨rfl, h1⟩
      rw [HO.out]
      simp only [Hea.Hd.cells]
      obtain ⟨z, hzz⟩ : ∃ z, w1.heap.size = z := ⟨_, rfl⟩
      have hz := c_add h1 99 #[i6 q0, i6 q1, i6 q2, i6 q3, .bool q4, .bool q5, .bool q6]
      rw [hzz] at hz
      obtain ⟨⟨c13, c14, _, _, _, c18⟩, _, hbl, _⟩ := c_at hz
      have zb := SepO.blk hz (8 + l.length) c_last
      have z0 := zb.cell 0
      have z1 := zb.cell 1
      simp at z0 z1
      have zl := zb.lt
      have H1 := Lib.hid hz
      clear h1 H hz zb
      go_wp2_with fail
      go_region_held3 (fun w' => w'.cell? ⟨k.c, 13, none⟩ = some (pt k.a) ∧ w'.cell? ⟨z, 1, none⟩ = some (i6 q1)) (first | exact ⟨c13, z1⟩ | exact ⟨x13, x1⟩ | go_keep) ((go_at_call 76; (with_reducible refine (HCF.out _ (l ++ [blkP z 99 #[i6 q0, i6 q1, i6 q2, i6 q3, .bool q4, .bool q5, .bool q6]]) ?hx).mono ?_); (case hx => exact H1.out.drewN _); rintro e w3 ⟨rfl, h3⟩; have x13 := (c_at h3).1.1; have xb := SepO.blk h3 (8 + l.length) c_last; have x1 := xb.cell 1; simp at x1))
      go_wp2_with fail
      go_ret
      exact ⟨rfl, c_drop h3⟩
  · obtain rfl : R = (e, S) := by rw [HRE.out, if_pos he]
    have heb : (e != 0) = true := by simpa using he
    clear he
    go_enter Tryz.func38, Tryz.ntmps38
    go_wp2_with fail
    refine (object_in x H.out).mono ?_
    rintro e w1 ⟨rfl, h1⟩
    rw [HO.out]
    simp only [Hea.Hd.cells]
    obtain ⟨z, hzz⟩ : ∃ z, w1.heap.size = z := ⟨_, rfl⟩
    have hz := c_add h1 99 #[i6 q0, i6 q1, i6 q2, i6 q3, .bool q4, .bool q5, .bool q6]
    rw [hzz] at hz
    obtain ⟨⟨c13, c14, _, _, _, c18⟩, _, hbl, _⟩ := c_at hz
    have H1 := Lib.hid hz
    clear h1 H hz
    go_wp2_with fail
    go_ret
    exact ⟨rfl, c_drop H1.out⟩
set_option maxHeartbeats 2000000 in
theorem Shape_in (x : Int) (h : SepO W oo w (cparts k S ++ l)) : Calls Tryz.prog 84 #[pt k.c, .int .i64 x] w fun e w' => e = .returned (.tuple #[.int .i64 (S.shapeH x).1, .int .i64 (S.shapeH x).2.1, .int .i64 (S.shapeH x).2.2]) ∧ SepO W oo w' (cparts k S ++ l) := by
  obtain ⟨R, hR⟩ : ∃ R, S.shapeH x = R := ⟨_, rfl⟩
  rw [hR]
  obtain ⟨b0, b1, b2, b3⟩ := obj_hd S x
  obtain ⟨⟨a, X, e⟩, hO⟩ : ∃ O, S.obj x = O := ⟨_, rfl⟩
  rw [hO] at b0 b1 b2 b3
  simp only [] at b0 b1 b2 b3
  have HO := Lib.hid hO
  have H := Lib.hid h
  have hRe : R = if e ≠ 0 then (0, 0, e) else (X.ptrs, X.size - X.ptrs, 0) := by
    rw [← hR]; unfold CS.shapeH; simp only [hO]
  obtain ⟨q0, q1, q2, q3, q4, q5, q6⟩ := X
  simp only [] at b0 b1 b2 b3 hRe
  have HRE := Lib.hid hRe
  clear h hO hR hRe
  by_cases he : e = 0
  · subst he
    obtain rfl : R = (q1, q0 - q1, 0) := by rw [HRE.out, if_neg (by simp)]
    have s1 := IntWalk.i64_in (q0 - q1) (by omega)
    go_enter Tryz.func84, Tryz.ntmps84
    go_wp2_with fail
    refine (object_in x H.out).mono ?_
    rintro e w1 ⟨rfl, h1⟩
    rw [HO.out]
    simp only [Hea.Hd.cells]
    obtain ⟨z, hzz⟩ : ∃ z, w1.heap.size = z := ⟨_, rfl⟩
    have hz := c_add h1 99 #[i6 q0, i6 q1, i6 q2, i6 q3, .bool q4, .bool q5, .bool q6]
    rw [hzz] at hz
    obtain ⟨⟨c13, c14, _, _, _, c18⟩, _, hbl, _⟩ := c_at hz
    have zb := SepO.blk hz (8 + l.length) c_last
    have z0 := zb.cell 0
    have z1 := zb.cell 1
    simp at z0 z1
    have zl := zb.lt
    have H1 := Lib.hid hz
    clear h1 H hz zb
    go_wp2_with fail
    go_quiet (fail)
    go_wp2_with fail
    refine bodyPost_ret (v := .tuple #[i6 q1, i6 (q0 - q1), i6 0]) (by simp [results, Tryz.results84, go_sem]) rfl ⟨rfl, c_drop (H1.out.drewN _)⟩
  · obtain rfl : R = (0, 0, e) := by rw [HRE.out, if_pos he]
    have heb : (e != 0) = true := by simpa using he
    clear he
    go_enter Tryz.func84, Tryz.ntmps84
    go_wp2_with fail
    refine (object_in x H.out).mono ?_
    rintro e w1 ⟨rfl, h1⟩
    rw [HO.out]
    simp only [Hea.Hd.cells]
    obtain ⟨z, hzz⟩ : ∃ z, w1.heap.size = z := ⟨_, rfl⟩
    have hz := c_add h1 99 #[i6 q0, i6 q1, i6 q2, i6 q3, .bool q4, .bool q5, .bool q6]
    rw [hzz] at hz
    obtain ⟨⟨c13, c14, _, _, _, c18⟩, _, hbl, _⟩ := c_at hz
    have H1 := Lib.hid hz
    clear h1 H hz
    go_wp2_with fail
    refine bodyPost_ret (v := .tuple #[i6 0, i6 0, i6 e]) (by simp [results, Tryz.results84, go_sem]) rfl ⟨rfl, c_drop H1.out⟩
end
end Go.Proofs.YtihmkkjmnbehbaaGreat.Wh
/- An object's references leave the half that is emptied. No condition. -/
set_option linter.unusedVariables false
set_option linter.unusedSimpArgs false
namespace Go.Proofs.YtihmkkjmnbehbaaGreat.Wh
open Go.RowKit Go.Proofs.YtihmkkjmnbehbaaGreat.W Go.Proofs.YtihmkkjmnbehbaaGreat.Sm
theorem place_row (S : CS) (x g : Int) : (S.place x g).2.row = S.row := by
  unfold CS.place
  split
  · split <;> rfl
  · rfl
theorem move_row (S : CS) (a : Int) : (S.move a).2.row.length ≤ S.row.length + 1 := by
  unfold CS.move
  split
  · exact Nat.le_succ _
  · split
    · exact Nat.le_succ _
    · simp only []
      split
      · simp [place_row]
      · simp [place_row]
section
variable {W w : World} {oo : Nat → Prop} {k : CK} {S : CS} {l : List Pr} {F : FuncId} {args : Array Value}
set_option maxHeartbeats 4000000 in
theorem through_in (a : Int) (ha : I64 a) (hrb : RB 900000000 S) (h : SepO W oo w (cparts k S ++ l)) : Calls Tryz.prog 129 #[pt k.c, .int .i64 a] w fun e w' => e = .returned (.int .i64 (S.through a).1) ∧ ∃ A m, SepO W oo w' (cparts (k.rw A m) (S.through a).2 ++ l) := by
  have H := Lib.hid h
  obtain ⟨b0, b1, b2, b3, _⟩ := hd_b S a
  obtain ⟨X, hX⟩ : ∃ X, S.hd a = X := ⟨_, rfl⟩
  rw [hX] at b0 b1 b2 b3
  obtain ⟨wd, hwd⟩ : ∃ wd, Ob.wordsOf X = wd := ⟨_, rfl⟩
  obtain ⟨⟨yy, S9⟩, hT⟩ : ∃ T, CS.thr a X.ptrs.toNat 0 false S = T := ⟨_, rfl⟩
  have hR : S.through a = (wd, if yy then S9.note a else S9) := by unfold CS.through; simp only [hX, hwd, hT]
  rw [hR]
  simp only []
  obtain ⟨R2, hR2⟩ : ∃ R2, (if yy = true then S9.note a else S9) = R2 := ⟨_, rfl⟩
  rw [hR2]
  have HRR := Lib.hid hR2
  clear hR2
  have HX := Lib.hid hX
  have HW := Lib.hid hwd
  have HT := Lib.hid hT
  obtain ⟨q0, q1, q2, q3, q4, q5, q6⟩ := X
  simp only [] at b0 b1 b2 b3
  obtain ⟨N, rfl⟩ : ∃ N : Nat, q1 = N := ⟨q1.toNat, by omega⟩
  clear h hX hwd hT hR
  go_enter Tryz.func129, Tryz.ntmps129
  go_wp2_with fail
  refine (Head_in a H.out).mono ?_
  rintro e w1 ⟨rfl, h1⟩
  rw [HX.out]
  simp only [Hea.Hd.cells]
  obtain ⟨z, hzz⟩ : ∃ z, w1.heap.size = z := ⟨_, rfl⟩
  have hz := c_add h1 99 #[i6 q0, i6 (N : Int), i6 q2, i6 q3, .bool q4, .bool q5, .bool q6]
  rw [hzz] at hz
  have HZ := Lib.hid hz
  clear h1 hz H
  go_wp2_with fail
  generalize w1.alloc (.cells #[i6 q0, i6 (N : Int), i6 q2, i6 q3, .bool q4, .bool q5, .bool q6] 99) = w2 at HZ ⊢
  clear hzz
  go_loopg [6, 7, 8, 9, 15] N (fun gk y6 s7 s8 s9 n15 wr => ∃ (n : Nat) (y : Bool) (S' : CS) (A : Option Addr) (m : Nat), n + gk = N ∧ n15 = .int .i64 n ∧ y6 = .bool y ∧ CS.thr a gk n y S' = (yy, S9) ∧ S'.row.length ≤ S.row.length + n ∧ SepO W oo wr (cparts (k.rw A m) S' ++ (l ++ [blkP z 99 #[i6 q0, i6 (N : Int), i6 q2, i6 q3, .bool q4, .bool q5, .bool q6]])))
  case atStart => exact ⟨0, false, S, k.A, k.n, by omega, rfl, rfl, by have := HT.out; simpa using this, by omega, HZ.out⟩
  case round =>
    clear HZ HT
    obtain ⟨n, y, S', A, m, hn, rfl, rfl, ht, hrow, h⟩ := hrel
    have HN := Lib.hid hn
    have hnN : n ≤ N := by omega
    by_cases hlt : n < N
    · obtain ⟨g, hg⟩ : ∃ g, gk = g + 1 := ⟨gk - 1, by omega⟩
      rw [hg] at ht
      unfold CS.thr at ht
      have hrf := ref_b S' a n
      obtain ⟨x, hx⟩ : ∃ x, S'.ref a n = x := ⟨_, rfl⟩
      rw [hx] at hrf
      obtain ⟨M, hM⟩ : ∃ M, S'.move x = M := ⟨_, rfl⟩
      have hmb : I64 M.1 := hM ▸ move_b (y_ok h) (o_ok h) hrf
      have hmr : M.2.row.length ≤ S'.row.length + 1 := hM ▸ move_row S' x
      have hrb2 : RB 1000000000 S' := by unfold RB at hrb ⊢; omega
      simp only [hx, hM] at ht
      obtain ⟨M1, M2⟩ := M
      simp only [] at ht hmb hmr
      have HX2 := Lib.hid hx
      have HM := Lib.hid hM
      have HT := Lib.hid ht
      have HG := Lib.hid hg
      have HS := Lib.hid h
      clear h hx hM ht hg hn
      go_wp2_with fail
      refine (Ref_in (k := k.rw A m) a n HS.out).mono ?_
      rintro e w3 ⟨rfl, h3⟩
      rw [HX2.out]
      have H3 := Lib.hid h3
      clear h3 HS
      go_wp2_with fail
      refine (Move_in (k := k.rw A m) x hrf hrb2 H3.out).mono ?_
      rintro e w4 ⟨rfl, A4, m4, h4⟩
      rw [HM.out] at h4 ⊢
      simp only [] at h4 ⊢
      obtain ⟨⟨c13, c14, _⟩, _, cbl, _⟩ := c_at h4
      replace c13 : w4.cell? ⟨k.c, 13, none⟩ = some (pt k.a) := c13
      replace c14 : w4.cell? ⟨k.c, 14, none⟩ = some (pt k.y) := c14
      replace cbl : k.c < w4.heap.size := cbl
      have H4 := Lib.hid h4
      clear h4 H3
      have HNN := Lib.hid hnN
      by_cases hmx : M1 = x
      · have hmb2 : (M1 != x) = false := by simpa using hmx
        subst hmx
        obtain ⟨⟨_, d14, _⟩, _, dbl, _⟩ := c_at H4.out
        replace d14 : w4.cell? ⟨k.c, 14, none⟩ = some (pt k.y) := d14
        replace dbl : k.c < w4.heap.size := dbl
        cases hy : y
        · subst hy
          obtain ⟨yn, hyn⟩ : ∃ yn, M2.y.isIn M1 = yn := ⟨_, rfl⟩
          have hnx : CS.thr a g (n + 1) yn (M2) = (yy, S9) := by
            have := HT.out
            simpa [hmb2, hyn] using this
          have HNX := Lib.hid hnx
          have HYN := Lib.hid hyn
          clear hnx hyn
          go_wp2_with fail
          refine (bmp_read (k := (k.rw A m).rw A4 m4) H4.out (fun o ho => Bp.In_calls M1 w4 ho hmb.2)).mono ?_
          rintro e w6 ⟨rfl, h6⟩
          rw [show (M2).y.isIn M1 = yn from HYN.out]
          have H6 := Lib.hid h6
          clear h6
          go_wp2_with fail
          go_roundg g
          case measure => have := HG.out; omega
          case rel => exact ⟨n + 1, yn, M2, A4, m4, by have := HN.out; have := HG.out; omega, by go_num, rfl, HNX.out, by show M2.row.length ≤ _; omega, H6.out⟩
        · subst hy
          have hnx : CS.thr a g (n + 1) true (M2) = (yy, S9) := by
            have := HT.out
            simpa [hmb2] using this
          have HNX := Lib.hid hnx
          clear hnx
          go_wp2_with fail
          go_roundg g
          case measure => have := HG.out; omega
          case rel => exact ⟨n + 1, true, M2, A4, m4, by have := HN.out; have := HG.out; omega, by go_num, rfl, HNX.out, by show M2.row.length ≤ _; omega, H4.out⟩
      · have hmb2 : (M1 != x) = true := by simpa using hmx
        have hu : Ob.w64 (IntKind.u64.wrap M1) := by rw [IntKind.wrap_u64]; unfold Ob.w64; omega
        go_wp2_with fail
        refine (oba_write (k := (k.rw A m).rw A4 m4) H4.out (fun o ho => Ob.SetField_calls a n (IntKind.u64.wrap M1) ho hu)).mono ?_
        rintro e w5 ⟨rfl, h5⟩
        have H5 := Lib.hid h5
        clear h5 H4 c13 c14 cbl hu
        obtain ⟨⟨_, d14, _⟩, _, dbl, _⟩ := c_at H5.out
        replace d14 : w5.cell? ⟨k.c, 14, none⟩ = some (pt k.y) := d14
        replace dbl : k.c < w5.heap.size := dbl
        cases hy : y
        · subst hy
          obtain ⟨yn, hyn⟩ : ∃ yn, M2.y.isIn M1 = yn := ⟨_, rfl⟩
          have hnx : CS.thr a g (n + 1) yn ({ M2 with ws := Ob.stW M2.ws (Ob.placeOf a n) (IntKind.u64.wrap M1) }) = (yy, S9) := by
            have := HT.out
            simpa [hmx, hyn] using this
          have HNX := Lib.hid hnx
          have HYN := Lib.hid hyn
          clear hnx hyn
          go_wp2_with fail
          refine (bmp_read (k := (k.rw A m).rw A4 m4) H5.out (fun o ho => Bp.In_calls M1 w5 ho hmb.2)).mono ?_
          rintro e w6 ⟨rfl, h6⟩
          rw [show ({ M2 with ws := Ob.stW M2.ws (Ob.placeOf a n) (IntKind.u64.wrap M1) } : CS).y.isIn M1 = yn from HYN.out]
          have H6 := Lib.hid h6
          clear h6
          go_wp2_with fail
          go_roundg g
          case measure => have := HG.out; omega
          case rel => exact ⟨n + 1, yn, { M2 with ws := Ob.stW M2.ws (Ob.placeOf a n) (IntKind.u64.wrap M1) }, A4, m4, by have := HN.out; have := HG.out; omega, by go_num, rfl, HNX.out, by show M2.row.length ≤ _; omega, H6.out⟩
        · subst hy
          have hnx : CS.thr a g (n + 1) true ({ M2 with ws := Ob.stW M2.ws (Ob.placeOf a n) (IntKind.u64.wrap M1) }) = (yy, S9) := by
            have := HT.out
            simpa [hmx] using this
          have HNX := Lib.hid hnx
          clear hnx
          go_wp2_with fail
          go_roundg g
          case measure => have := HG.out; omega
          case rel => exact ⟨n + 1, true, { M2 with ws := Ob.stW M2.ws (Ob.placeOf a n) (IntKind.u64.wrap M1) }, A4, m4, by have := HN.out; have := HG.out; omega, by go_num, rfl, HNX.out, by show M2.row.length ≤ _; omega, H5.out⟩
    · have hnN2 : gk = 0 := by omega
      rw [hnN2] at ht
      unfold CS.thr at ht
      simp only [Prod.mk.injEq] at ht
      obtain ⟨rfl, rfl⟩ := ht
      have zb := SepO.blk h (8 + l.length) c_last
      have z0 := zb.cell 0
      have z1 := zb.cell 1
      have z2 := zb.cell 2
      have z3 := zb.cell 3
      have z4 := zb.cell 4
      have z5 := zb.cell 5
      have z6 := zb.cell 6
      simp at z0 z1 z2 z3 z4 z5 z6
      have zl := zb.lt
      have H1 := Lib.hid h
      clear h hnN2 hn zb
      cases hy : y
      · subst hy
        obtain rfl : R2 = S' := by rw [← HRR.out]; rfl
        go_wp2_with fail
        refine (Ob.Words_calls ⟨q0, N, q2, q3, q4, q5, q6⟩ _).mono ?_
        rintro e w6 ⟨rfl, k6⟩
        rw [HW.out]
        have H6 := Lib.hid (H1.out.stay k6)
        clear k6 H1
        go_wp2_with fail
        go_ret
        exact ⟨rfl, _, _, c_drop H6.out⟩
      · subst hy
        obtain rfl : R2 = S'.note a := by rw [← HRR.out]; rfl
        go_wp2_with fail
        refine (Note_in (k := k.rw A m) a ha H1.out).mono ?_
        rintro e w5 ⟨rfl, h5⟩
        have zb := SepO.blk h5 (8 + l.length) c_last
        have z0 := zb.cell 0
        have z1 := zb.cell 1
        have z2 := zb.cell 2
        have z3 := zb.cell 3
        have z4 := zb.cell 4
        have z5 := zb.cell 5
        have z6 := zb.cell 6
        simp at z0 z1 z2 z3 z4 z5 z6
        have zl := zb.lt
        have H5 := Lib.hid h5
        clear h5 H1 zb
        go_wp2_with fail
        refine (Ob.Words_calls ⟨q0, N, q2, q3, q4, q5, q6⟩ _).mono ?_
        rintro e w6 ⟨rfl, k6⟩
        rw [HW.out]
        have H6 := Lib.hid (H5.out.stay k6)
        clear k6 H5
        go_wp2_with fail
        go_ret
        exact ⟨rfl, _, _, c_drop H6.out⟩
end
end Go.Proofs.YtihmkkjmnbehbaaGreat.Wh
/- Old objects of the remembered set. No condition. -/
set_option linter.unusedVariables false
set_option linter.unusedSimpArgs false
namespace Go.Proofs.YtihmkkjmnbehbaaGreat.Wh
open Go.RowKit Go.Proofs.YtihmkkjmnbehbaaGreat.W Go.Proofs.YtihmkkjmnbehbaaGreat.Sm
section
variable {W w : World} {oo : Nat → Prop} {k : CK} {S : CS} {l : List Pr} {F : FuncId} {args : Array Value}
theorem oSize_in (a : Int) (ha : I64 a) (h : SepO W oo w (cparts k S ++ l)) : Calls Tryz.prog 25 #[pt k.o, .int .i64 a] w fun e w' => e = .returned (.tuple #[.int .i64 (S.o.size a), .bool (S.o.has a)]) ∧ SepO W oo w' (cparts k S ++ l) := Ma.Size_sep a ha h 3 rfl
set_option maxHeartbeats 1000000 in
theorem noted_in (a : Int) (ha : I64 a) (hrb : RB 900000000 S) (h : SepO W oo w (cparts k S ++ l)) : Calls Tryz.prog 128 #[pt k.c, .int .i64 a] w fun e w' => e = .returned (.int .i64 (S.noted a).1) ∧ ∃ A m, SepO W oo w' (cparts (k.rw A m) (S.noted a).2 ++ l) := by
  obtain ⟨⟨_, _, c15, _⟩, _, hbl, _⟩ := c_at h
  have H := Lib.hid h
  obtain ⟨R, hR⟩ : ∃ R, S.noted a = R := ⟨_, rfl⟩
  rw [hR]
  obtain ⟨X, hX⟩ : ∃ X, S.hd a = X := ⟨_, rfl⟩
  have HX := Lib.hid hX
  have hRe : R = if S.o.has a = false then (0, S) else if X.noted = false then (0, S) else (S.setHd a { X with noted := false }).through a := by
    rw [← hR]; unfold CS.noted; rw [hX]
  have HRE := Lib.hid hRe
  obtain ⟨q0, q1, q2, q3, q4, q5, q6⟩ := X
  cases hh : S.o.has a
  · obtain rfl : R = (0, S) := by rw [HRE.out, if_pos hh]
    have HH := Lib.hid hh
    clear h hR hX hRe hh
    go_enter Tryz.func128, Tryz.ntmps128
    go_wp2_with fail
    refine (oSize_in a ha H.out).mono ?_
    rintro e w1 ⟨rfl, h1⟩
    rw [HH.out]
    have H1 := Lib.hid h1
    clear h1 H
    go_wp2_with fail
    go_ret
    exact ⟨rfl, _, _, H1.out⟩
  · have HH := Lib.hid hh
    cases q5
    · obtain rfl : R = (0, S) := by rw [HRE.out, if_neg (by rw [hh]; simp), if_pos rfl]
      clear h hR hX hRe hh
      go_enter Tryz.func128, Tryz.ntmps128
      go_wp2_with fail
      refine (oSize_in a ha H.out).mono ?_
      rintro e w1 ⟨rfl, h1⟩
      rw [HH.out]
      have H1 := Lib.hid h1
      clear h1 H
      go_wp2_with fail
      refine (Head_in a H1.out).mono ?_
      rintro e w2 ⟨rfl, h2⟩
      rw [HX.out]
      simp only [Hea.Hd.cells]
      have H2 := Lib.hid (h2.alloc (.cells #[i6 q0, i6 q1, i6 q2, i6 q3, .bool q4, .bool false, .bool q6] 99))
      clear h2 H1
      go_wp2_with fail
      go_ret
      exact ⟨rfl, _, _, H2.out⟩
    · obtain rfl : R = (S.setHd a ⟨q0, q1, q2, q3, q4, false, q6⟩).through a := by rw [HRE.out, if_neg (by rw [hh]; simp), if_neg (by simp)]
      clear h hR hX hRe hh
      go_enter Tryz.func128, Tryz.ntmps128
      go_wp2_with fail
      refine (oSize_in a ha H.out).mono ?_
      rintro e w1 ⟨rfl, h1⟩
      rw [HH.out]
      have H1 := Lib.hid h1
      clear h1 H
      go_wp2_with fail
      refine (Head_in a H1.out).mono ?_
      rintro e w2 ⟨rfl, h2⟩
      rw [HX.out]
      simp only [Hea.Hd.cells]
      have H2 := Lib.hid h2
      clear h2 H1
      go_wp2_with fail
      refine (SetHead_in a ⟨q0, q1, q2, q3, q4, false, q6⟩ (H2.out.alloc _)).mono ?_
      rintro e w3 ⟨rfl, h3⟩
      have H3 := Lib.hid h3
      clear h3 H2
      go_wp2_with fail
      refine (through_in a ha (S := S.setHd a ⟨q0, q1, q2, q3, q4, false, q6⟩) hrb H3.out).mono ?_
      rintro e w4 ⟨rfl, A, m, h4⟩
      have H4 := Lib.hid h4
      clear h4 H3
      go_wp2_with fail
      go_ret
      exact ⟨rfl, _, _, H4.out⟩
end
end Go.Proofs.YtihmkkjmnbehbaaGreat.Wh
/- Shape and room of the core. No condition. -/
set_option linter.unusedVariables false
set_option linter.unusedSimpArgs false
namespace Go.Proofs.YtihmkkjmnbehbaaGreat.Wh
open Go.RowKit Go.Proofs.YtihmkkjmnbehbaaGreat.W Go.Proofs.YtihmkkjmnbehbaaGreat.Sm
section
variable {W w : World} {oo : Nat → Prop} {k : CK} {S : CS} {l : List Pr} {F : FuncId} {args : Array Value}
theorem shape_in (p s : Int) (hp : I64 p) (hs : I64 s) (hl : 0 ≤ S.c.l ∧ S.c.l ≤ 64) (h : SepO W oo w (cparts k S ++ l)) : Calls Tryz.prog 110 #[pt k.c, .int .i64 p, .int .i64 s] w fun e w' => e = .returned (.bool (S.shape p s)) ∧ w' = w := by
  have c8 : w.cell? ⟨k.c, 8, none⟩ = some (i6 S.c.l) := (c_blk h).cell 8
  obtain ⟨R, hR⟩ : ∃ R, S.shape p s = R := ⟨_, rfl⟩
  rw [hR]
  unfold CS.shape at hR
  obtain ⟨hl0, hl1⟩ := hl
  obtain ⟨hp0, hp1⟩ := hp
  obtain ⟨hs0, hs1⟩ := hs
  rcases (by omega : p < 0 ∨ (0 ≤ p ∧ s < 0) ∨ (0 ≤ p ∧ 0 ≤ s ∧ S.c.l < p) ∨ (0 ≤ p ∧ 0 ≤ s ∧ p ≤ S.c.l)) with h1 | ⟨h1, h2⟩ | ⟨h1, h2, h3⟩ | ⟨h1, h2, h3⟩
  · have d1 : decide (0 ≤ p) = false := by simp; omega
    obtain rfl : R = false := by rw [← hR, d1]; rfl
    clear h hR
    go_enter Tryz.func110, Tryz.ntmps110
    go_wp2_with fail
    go_ret
    exact ⟨rfl, rfl⟩
  · have d1 : decide (0 ≤ p) = true := by simpa using h1
    have d2 : decide (0 ≤ s) = false := by simp; omega
    obtain rfl : R = false := by rw [← hR, d1, d2]; rfl
    clear h hR
    go_enter Tryz.func110, Tryz.ntmps110
    go_wp2_with fail
    go_ret
    exact ⟨rfl, rfl⟩
  · have d1 : decide (0 ≤ p) = true := by simpa using h1
    have d2 : decide (0 ≤ s) = true := by simpa using h2
    have d3 : decide (p ≤ S.c.l) = false := by simp; omega
    obtain rfl : R = false := by rw [← hR, d1, d2, d3]; rfl
    clear h hR
    go_enter Tryz.func110, Tryz.ntmps110
    go_wp2_with fail
    go_ret
    exact ⟨rfl, rfl⟩
  · have d1 : decide (0 ≤ p) = true := by simpa using h1
    have d2 : decide (0 ≤ s) = true := by simpa using h2
    have d3 : decide (p ≤ S.c.l) = true := by simpa using h3
    obtain rfl : R = decide (s ≤ S.c.l - p) := by rw [← hR, d1, d2, d3]; rfl
    clear h hR
    go_enter Tryz.func110, Tryz.ntmps110
    go_wp2_with fail
    go_ret
    exact ⟨rfl, rfl⟩
end
end Go.Proofs.YtihmkkjmnbehbaaGreat.Wh
/- Room and Make of the core. No condition. -/
set_option linter.unusedVariables false
set_option linter.unusedSimpArgs false
namespace Go.Proofs.YtihmkkjmnbehbaaGreat.Wh
open Go.RowKit Go.Proofs.YtihmkkjmnbehbaaGreat.W Go.Proofs.YtihmkkjmnbehbaaGreat.Sm
section
variable {W w : World} {oo : Nat → Prop} {k : CK} {S : CS} {l : List Pr} {F : FuncId} {args : Array Value}
theorem yLeft_in (h : SepO W oo w (cparts k S ++ l)) : Calls Tryz.prog 91 #[pt k.y] w fun e w' => e = .returned (.int .i64 S.y.left) ∧ SepO W oo w' (cparts k S ++ l) :=
  bmp_read h (fun o ho => (Bp.Left_calls w ho).mono fun e w' ⟨he, n, hw⟩ => ⟨he, hw ▸ (Keep.refl _ w).drewN n⟩)
theorem yRoom_in (h : SepO W oo w (cparts k S ++ l)) : Calls Tryz.prog 134 #[pt k.y] w fun e w' => e = .returned (.int .i64 S.y.room) ∧ SepO W oo w' (cparts k S ++ l) :=
  bmp_read h (fun o ho => (Bp.Room_calls w ho).mono fun e w' ⟨he, n, hw⟩ => ⟨he, hw ▸ (Keep.refl _ w).drewN n⟩)
theorem room_in (x : Int) (hx : 2 ≤ x ∧ x ≤ 66) (h : SepO W oo w (cparts k S ++ l)) : Calls Tryz.prog 112 #[pt k.c, .int .i64 x] w fun e w' => e = .returned (.bool (S.room x)) ∧ SepO W oo w' (cparts k S ++ l) := by
  obtain ⟨⟨_, c14, _⟩, ⟨_, _, c21, _, c23, _⟩, hbl, _⟩ := c_at h
  have hy := y_ok h
  have hrm : S.y.room - x ≤ 1048576 ∧ -66 ≤ S.y.room - x := by
    unfold Bp.Sp.ok at hy
    unfold Bp.Sp.room Bp.Sp.used
    split <;> omega
  have hwr : wrap64 (S.y.room - x) = S.y.room - x := by
    obtain ⟨h1, h2⟩ := hrm
    unfold wrap64; omega
  have H := Lib.hid h
  obtain ⟨R, hR⟩ : ∃ R, S.room x = R := ⟨_, rfl⟩
  rw [hR]
  have HR := Lib.hid hR
  obtain ⟨rm, hrm2⟩ : ∃ rm, S.y.room = rm := ⟨_, rfl⟩
  obtain ⟨lf, hlf⟩ : ∃ lf, S.y.left = lf := ⟨_, rfl⟩
  rw [hrm2] at hrm hwr
  have HRM := Lib.hid hrm2
  have HLF := Lib.hid hlf
  cases hmv : S.mv
  · have hRe : R = decide (x ≤ rm) := by rw [← HR.out]; unfold CS.room; rw [hmv, hrm2]; simp
    subst hRe
    clear h hR hy hrm2 hlf HR
    rw [hmv] at c21
    clear hmv
    go_enter Tryz.func112, Tryz.ntmps112
    go_wp2_with fail
    refine (yRoom_in H.out).mono ?_
    rintro e w1 ⟨rfl, h1⟩
    rw [HRM.out]
    have H1 := Lib.hid h1
    clear h1 H
    go_wp2_with fail
    go_ret
    exact ⟨rfl, H1.out⟩
  · have hRe : R = decide (wrap64 (lf - S.cop) ≤ rm - x) := by rw [← HR.out]; unfold CS.room; rw [hmv, hrm2, hlf]; simp
    subst hRe
    rw [hmv] at c21
    have hc : ∀ w', SepO W oo w' (cparts k S ++ l) → Calls Tryz.prog 91 #[pt k.y] w' fun e w'' => e = .returned (.int .i64 lf) ∧ SepO W oo w'' (cparts k S ++ l) := fun w' h' => by rw [← hlf]; exact yLeft_in h'
    have HC := Lib.hid hc
    clear h hR hy hrm2 hlf HR hmv hc
    go_enter Tryz.func112, Tryz.ntmps112
    go_wp2_with fail
    go_region_held3 (fun w' => w'.cell? ⟨k.c, 14, none⟩ = some (pt k.y) ∧ w'.cell? ⟨k.c, 23, none⟩ = some (i6 S.cop)) (first | exact ⟨c14, c23⟩ | exact ⟨f14, f23⟩ | go_keep) ((go_at_call 91; (with_reducible refine (HC.out _ ?hx).mono ?_); (case hx => exact H.out.drewN _); rintro e w1 ⟨rfl, h1⟩; have f14 := (c_at h1).1.2.1; have f23 := (c_at h1).2.1.2.2.2.2.1))
    have fbl := (c_at h1).2.2.1
    have H1 := Lib.hid h1
    clear h1 H
    go_wp2_with fail
    refine (yRoom_in H1.out).mono ?_
    rintro e w2 ⟨rfl, h2⟩
    rw [HRM.out]
    have H2 := Lib.hid h2
    clear h2 H1
    go_wp2_with fail
    go_ret
    exact ⟨rfl, H2.out⟩
end
end Go.Proofs.YtihmkkjmnbehbaaGreat.Wh
/- Make of the core. Condition: a largest of at most 64. -/
set_option linter.unusedVariables false
set_option linter.unusedSimpArgs false
namespace Go.Proofs.YtihmkkjmnbehbaaGreat.Wh
open Go.RowKit Go.Proofs.YtihmkkjmnbehbaaGreat.W Go.Proofs.YtihmkkjmnbehbaaGreat.Sm
section
variable {W w : World} {oo : Nat → Prop} {k : CK} {S : CS} {l : List Pr} {F : FuncId} {args : Array Value}
theorem yTake_in (x : Int) (h : SepO W oo w (cparts k S ++ l)) : Calls Tryz.prog 113 #[pt k.y, .int .i64 x] w fun e w' => e = .returned (.tuple #[.int .i64 (yAt S.y x), .bool (S.y.fits x)]) ∧ SepO W oo w' (cparts k { S with y := S.y.take x } ++ l) := bmp_write h (fun o ho => Bp.Take_calls x w ho)
theorem oMake_in (a : Int) (x : Hd) (h : SepO W oo w (cparts k S ++ l)) : Calls Tryz.prog 114 #[pt k.a, .int .i64 a, .agg x.cells] w fun e w' => e = .returned (.int .i64 (Ob.mkErr S.ws a x)) ∧ SepO W oo w' (cparts k { S with ws := Ob.mkW S.ws a x } ++ l) := oba_write h (fun o ho => Ob.Make_calls a x ho)
theorem Words_in (x : Hd) (h : SepO W oo w (cparts k S ++ l)) : Calls Tryz.prog 111 #[.agg x.cells] w fun e w' => e = .returned (.int .i64 (Ob.wordsOf x)) ∧ SepO W oo w' (cparts k S ++ l) :=
  (Ob.Words_calls x w).mono fun e w' ⟨he, hk⟩ => ⟨he, h.stay hk⟩
theorem c_al (v : Int) (h : SepO W oo w (cparts k S ++ l)) : SepO W oo (w.setCell ⟨k.c, 26, none⟩ (i6 v)) (cparts k { S with d := { S.d with al := v } } ++ l) := by
  have := h.set_blk (t := 57) (cs := ccells k S) (g := k.c) 0 rfl 26 (i6 v)
  have e : (ccells k S).setIfInBounds 26 (i6 v) = ccells k { S with d := { S.d with al := v } } := by simp [ccells]
  rw [e] at this
  exact this
theorem c_wo (v : Int) (h : SepO W oo w (cparts k S ++ l)) : SepO W oo (w.setCell ⟨k.c, 27, none⟩ (i6 v)) (cparts k { S with d := { S.d with wo := v } } ++ l) := by
  have := h.set_blk (t := 57) (cs := ccells k S) (g := k.c) 0 rfl 27 (i6 v)
  have e : (ccells k S).setIfInBounds 27 (i6 v) = ccells k { S with d := { S.d with wo := v } } := by simp [ccells]
  rw [e] at this
  exact this
end
end Go.Proofs.YtihmkkjmnbehbaaGreat.Wh
