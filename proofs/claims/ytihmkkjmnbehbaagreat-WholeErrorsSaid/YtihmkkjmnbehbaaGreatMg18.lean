/- Texts of the whole heap, joined: WhD WhE. No condition beside those that each lemma names. -/
import Derived.Test.YtihmkkjmnbehbaaGreatMg16
import Derived.Test.YtihmkkjmnbehbaaGreatMg17
/- Calls of the core on one object: Note, Mark, place, Move. No condition. -/
set_option linter.unusedVariables false
set_option linter.unusedSimpArgs false
namespace Go.Proofs.YtihmkkjmnbehbaaGreat.Wh
open Go.RowKit Go.Proofs.YtihmkkjmnbehbaaGreat.W
section
variable {W w : World} {oo : Nat → Prop} {k : CK} {S : CS} {l : List Pr} {F : FuncId} {args : Array Value}
theorem Note_in (a : Int) (ha : I64 a) (h : SepO W oo w (cparts k S ++ l)) : Calls Tryz.prog 78 #[pt k.c, .int .i64 a] w fun e w' => e = .returned (.tuple #[]) ∧ SepO W oo w' (cparts k (S.note a) ++ l) := by
  obtain ⟨⟨c13, c14, c15, c16, _⟩, _, hbl, _⟩ := c_at h
  have H := Lib.hid h
  unfold CS.note
  by_cases h0 : a = 0
  · subst h0
    rw [if_pos rfl]
    clear h
    go_enter Tryz.func78, Tryz.ntmps78
    go_wp2_with fail
    first | go_end0 | refine bodyPost_ret (results_none rfl _ _ _) rfl ?_
    exact ⟨rfl, H.out⟩
  · have h0' : (a == 0) = false := beq_false_of_ne h0
    rw [if_neg h0]
    obtain ⟨x, hx⟩ : ∃ x, S.hd a = x := ⟨_, rfl⟩
    simp only [hx]
    have HX := Lib.hid hx
    obtain ⟨q0, q1, q2, q3, q4, q5, q6⟩ := x
    simp only []
    cases q6
    · rw [if_neg (by simp)]
      clear h h0 hx
      go_enter Tryz.func78, Tryz.ntmps78
      go_wp2_with fail
      refine (head_in a H.out).mono ?_
      rintro e w1 ⟨rfl, h1⟩
      rw [HX.out]
      simp only [Hea.Hd.cells]
      have H1 := Lib.hid h1
      clear h1 H c13 c14 c15 c16 hbl
      go_wp2_with fail
      first | go_end0 | refine bodyPost_ret (results_none rfl _ _ _) rfl ?_
      exact ⟨rfl, H1.out.alloc _⟩
    · cases q5
      · rw [if_pos (show (true && !false) = true from rfl)]
        clear h h0 hx
        go_enter Tryz.func78, Tryz.ntmps78
        go_wp2_with fail
        refine (head_in a H.out).mono ?_
        rintro e w1 ⟨rfl, h1⟩
        rw [HX.out]
        simp only [Hea.Hd.cells]
        have H1 := Lib.hid h1
        clear h1 H c13 c14 c15 c16 hbl
        go_wp2_with fail
        refine (SetHead_in a ⟨q0, q1, q2, q3, q4, true, true⟩ (H1.out.alloc _)).mono ?_
        rintro e w2 ⟨rfl, h2⟩
        obtain ⟨⟨c13, c14, c15, c16, _⟩, _, hbl, _⟩ := c_at h2
        have H2 := Lib.hid h2
        clear h2 H1
        go_wp2_with fail
        refine (Re.Add_sep a H2.out 4 rfl ha.1 ha.2).mono ?_
        rintro e w3 ⟨rfl, h3⟩
        have H3 := Lib.hid h3
        clear h3 H2 c13 c14 c15 c16 hbl
        go_wp2_with fail
        first | go_end0 | refine bodyPost_ret (results_none rfl _ _ _) rfl ?_
        exact ⟨rfl, H3.out⟩
      · rw [if_neg (by simp)]
        clear h h0 hx
        go_enter Tryz.func78, Tryz.ntmps78
        go_wp2_with fail
        refine (head_in a H.out).mono ?_
        rintro e w1 ⟨rfl, h1⟩
        rw [HX.out]
        simp only [Hea.Hd.cells]
        have H1 := Lib.hid h1
        clear h1 H c13 c14 c15 c16 hbl
        go_wp2_with fail
        first | go_end0 | refine bodyPost_ret (results_none rfl _ _ _) rfl ?_
        exact ⟨rfl, H1.out.alloc _⟩
theorem Mark_in (a : Int) (ha : I64 a) (h : SepO W oo w (cparts k S ++ l)) : Calls Tryz.prog 74 #[pt k.c, .int .i64 a] w fun e w' => e = .returned (.tuple #[]) ∧ SepO W oo w' (cparts k (S.mark a) ++ l) := by
  obtain ⟨_, ⟨c19, c20, _⟩, hbl, _⟩ := c_at h
  have H := Lib.hid h
  unfold CS.mark
  by_cases h0 : a = 0
  · subst h0
    rw [if_pos (.inl rfl)]
    clear h
    go_enter Tryz.func74, Tryz.ntmps74
    go_wp2_with fail
    first | go_end0 | refine bodyPost_ret (results_none rfl _ _ _) rfl ?_
    exact ⟨rfl, H.out⟩
  · have h0' : (a == 0) = false := beq_false_of_ne h0
    by_cases h1 : S.ph = 1
    · rw [if_neg (by simp [h0, h1])]
      rw [h1] at c20
      obtain ⟨b, hb⟩ : ∃ b, S.now a = b := ⟨_, rfl⟩
      have hbb : I64 b := hb ▸ now_b S ha
      obtain ⟨x, hx⟩ : ∃ x, S.hd b = x := ⟨_, rfl⟩
      simp only [hb, hx]
      have HX := Lib.hid hx
      have HB := Lib.hid hb
      obtain ⟨q0, q1, q2, q3, q4, q5, q6⟩ := x
      simp only []
      by_cases hp : q3 = S.par
      · rw [if_pos hp]
        have hpb : (q3 == S.par) = true := by simpa using hp
        clear h h0 hx hb h1 hp
        go_enter Tryz.func74, Tryz.ntmps74
        go_wp2_with fail
        refine (Now_in a ha H.out).mono ?_
        rintro e w1 ⟨rfl, h1⟩
        rw [HB.out]
        have H1 := Lib.hid h1
        clear h1 H c19 c20 hbl
        go_wp2_with fail
        refine (head_in b H1.out).mono ?_
        rintro e w2 ⟨rfl, h2⟩
        rw [HX.out]
        simp only [Hea.Hd.cells]
        obtain ⟨_, ⟨c19, c20, _⟩, hbl, _⟩ := c_at h2
        have H2 := Lib.hid h2
        clear h2 H1
        go_wp2_with fail
        go_quiet (fail)
        go_wp2_with fail
        first | go_end0 | refine bodyPost_ret (results_none rfl _ _ _) rfl ?_
        exact ⟨rfl, (H2.out.alloc _).drewN _⟩
      · rw [if_neg hp]
        have hpb : (q3 == S.par) = false := by simpa using hp
        clear h h0 hx hb h1 hp
        go_enter Tryz.func74, Tryz.ntmps74
        go_wp2_with fail
        refine (Now_in a ha H.out).mono ?_
        rintro e w1 ⟨rfl, h1⟩
        rw [HB.out]
        have H1 := Lib.hid h1
        clear h1 H c19 c20 hbl
        go_wp2_with fail
        refine (head_in b H1.out).mono ?_
        rintro e w2 ⟨rfl, h2⟩
        rw [HX.out]
        simp only [Hea.Hd.cells]
        obtain ⟨_, ⟨c19, c20, _⟩, hbl, _⟩ := c_at h2
        have H2 := Lib.hid h2
        clear h2 H1
        go_wp2_with fail
        go_quiet (fail)
        go_wp2_with fail
        have hz := (c_add H2.out 99 #[i6 q0, i6 q1, i6 q2, i6 q3, .bool q4, .bool q5, .bool q6]).drewN nq
        have hs1 := hz.set_blk (8 + l.length) c_last 3 (i6 S.par)
        rw [c_last_set] at hs1
        have hs2 := hs1.set_blk (8 + l.length) c_last 4 (.bool true)
        rw [c_last_set] at hs2
        refine (SetHead_in b ⟨q0, q1, q2, S.par, true, q5, q6⟩ hs2).mono ?_
        clear hz hs1 hs2
        rintro e w3 ⟨rfl, h3⟩
        obtain ⟨⟨_, _, _, _, c17, _⟩, _, hbl3, _⟩ := c_at h3
        have H3 := Lib.hid h3
        clear h3 H2 c19 c20 hbl
        go_wp2_with fail
        refine (Gy.Push_sep b H3.out 5 rfl).mono ?_
        rintro e w4 ⟨rfl, h4⟩
        have H4 := Lib.hid h4
        clear h4 H3 c17 hbl3
        go_wp2_with fail
        first | go_end0 | refine bodyPost_ret (results_none rfl _ _ _) rfl ?_
        exact ⟨rfl, c_drop (k := k) (S := (S.setHd b ⟨q0, q1, q2, S.par, true, q5, q6⟩).push b) H4.out⟩
    · rw [if_pos (.inr h1)]
      have h1' : (S.ph != 1) = true := by simpa using h1
      clear h h0 h1
      go_enter Tryz.func74, Tryz.ntmps74
      go_wp2_with fail
      first | go_end0 | refine bodyPost_ret (results_none rfl _ _ _) rfl ?_
      exact ⟨rfl, H.out⟩
theorem bmp_write {v : Value} {y' : Bp.Sp} (h : SepO W oo w (cparts k S ++ l)) (hc : ∀ o, Bp.SRep w o k.y S.y → Calls Tryz.prog F args w fun e w' => e = .returned v ∧ Bp.SRep w' o k.y y' ∧ Keep o w w') : Calls Tryz.prog F args w fun e w' => e = .returned v ∧ SepO W oo w' (cparts k { S with y := y' } ++ l) := by
  obtain ⟨o, hp, _, hup⟩ := h.open0 2 rfl
  refine (hc o hp).mono ?_
  rintro e w' ⟨rfl, hr, hk⟩
  exact ⟨rfl, hup w' (Bmp k.y y') hr hk⟩
theorem place_in (x age : Int) (hx : x ≤ 9223372036854775807) (h : SepO W oo w (cparts k S ++ l)) : Calls Tryz.prog 115 #[pt k.c, .int .i64 x, .int .i64 age] w fun e w' => e = .returned (.tuple #[.int .i64 (S.place x age).1.1, .bool (S.place x age).1.2]) ∧ SepO W oo w' (cparts k (S.place x age).2 ++ l) := by
  obtain ⟨⟨c13, c14, c15, _⟩, _, hbl, _⟩ := c_at h
  have c7 : w.cell? ⟨k.c, 7, none⟩ = some (i6 S.c.t) := (c_blk h).cell 7
  have H := Lib.hid h
  have young : ∀ (w : World) (k : CK) (S : CS), SepO W oo w (cparts k S ++ l) → Calls Tryz.prog 113 #[pt k.y, .int .i64 x] w fun e w' => e = .returned (.tuple #[.int .i64 (yAt S.y x), .bool (S.y.fits x)]) ∧ SepO W oo w' (cparts k { S with y := S.y.take x } ++ l) := fun w k S h => bmp_write h (fun o ho => Bp.Take_calls x w ho)
  have HY := Lib.hid young
  unfold CS.place
  by_cases ht : S.c.t ≤ age
  · rw [if_pos ht]
    cases hk : S.o.took x with
    | some a =>
      simp only []
      have HK := Lib.hid hk
      clear h young hk
      go_enter Tryz.func115, Tryz.ntmps115
      go_wp2_with fail
      refine (Ma.Take_sep x hx H.out 3 rfl).mono ?_
      rintro e w1 ⟨rfl, h1⟩
      rw [HK.out]
      simp only [Ma.oI, Option.isSome]
      have H1 := Lib.hid h1
      clear h1 H c13 c14 c15 c7 hbl
      go_wp2_with fail
      go_ret2
      exact ⟨rfl, H1.out⟩
    | none =>
      simp only []
      have HK := Lib.hid hk
      obtain ⟨ya, hya⟩ : ∃ ya, yAt S.y x = ya := ⟨_, rfl⟩
      rw [hya]
      have HA := Lib.hid hya
      clear h young hk hya
      go_enter Tryz.func115, Tryz.ntmps115
      go_wp2_with fail
      refine (Ma.Take_sep x hx H.out 3 rfl).mono ?_
      rintro e w1 ⟨rfl, h1⟩
      rw [Ma.take_none HK.out] at h1
      rw [HK.out]
      simp only [Ma.oI, Option.isSome]
      replace h1 : SepO W oo w1 (cparts k S ++ l) := h1
      obtain ⟨⟨d13, d14, d15, _⟩, _, dbl, _⟩ := c_at h1
      have H1 := Lib.hid h1
      clear h1 H c13 c14 c15 c7 hbl
      go_wp2_with fail
      refine (HY.out _ _ _ H1.out).mono ?_
      rintro e w2 ⟨rfl, h2⟩
      rw [HA.out]
      have H2 := Lib.hid h2
      clear h2 H1
      go_wp2_with fail
      go_ret2
      exact ⟨rfl, H2.out⟩
  · rw [if_neg ht]
    obtain ⟨ya, hya⟩ : ∃ ya, yAt S.y x = ya := ⟨_, rfl⟩
    rw [hya]
    have HA := Lib.hid hya
    clear h young hya
    go_enter Tryz.func115, Tryz.ntmps115
    go_wp2_with fail
    refine (HY.out _ _ _ H.out).mono ?_
    rintro e w2 ⟨rfl, h2⟩
    rw [HA.out]
    have H2 := Lib.hid h2
    clear h2 H c13 c14 c15 c7 hbl
    go_wp2_with fail
    go_ret2
    exact ⟨rfl, H2.out⟩
end
end Go.Proofs.YtihmkkjmnbehbaaGreat.Wh
/- Calls of the core on one object: Move. No condition. -/
set_option linter.unusedVariables false
set_option linter.unusedSimpArgs false
namespace Go.Proofs.YtihmkkjmnbehbaaGreat.Wh
open Go.RowKit Go.Proofs.YtihmkkjmnbehbaaGreat.W Go.Proofs.YtihmkkjmnbehbaaGreat.Sm
theorem hd_b (S : CS) (a : Int) : 0 ≤ (S.hd a).size ∧ (S.hd a).size ≤ 64 ∧ 0 ≤ (S.hd a).ptrs ∧ (S.hd a).ptrs ≤ (S.hd a).size ∧ 0 ≤ (S.hd a).age ∧ (S.hd a).age ≤ 7 ∧ 0 ≤ (S.hd a).par ∧ (S.hd a).par ≤ 1 := by
  unfold CS.hd Ob.hdAt Hea.hdOf
  split
  · rename_i h; exact h.1
  · simp [Hea.Hd.zero]
theorem words_b (h : Hd) : 2 ≤ Ob.wordsOf h ∧ Ob.wordsOf h ≤ 66 := by unfold Ob.wordsOf; (repeat' split) <;> omega
section
variable {W w : World} {oo : Nat → Prop} {k : CK} {S : CS} {l : List Pr} {F : FuncId} {args : Array Value}
theorem c_set23 (v : Int) : (ccells k S).setIfInBounds 23 (i6 v) = ccells k { S with cop := v } := by simp [ccells]
theorem c_set28 (v : Int) : (ccells k S).setIfInBounds 28 (i6 v) = ccells k { S with d := { S.d with pr := v } } := by simp [ccells]
theorem c_cop (v : Int) (h : SepO W oo w (cparts k S ++ l)) : SepO W oo (w.setCell ⟨k.c, 23, none⟩ (i6 v)) (cparts k { S with cop := v } ++ l) := by
  have := h.set_blk (t := 57) (cs := ccells k S) (g := k.c) 0 rfl 23 (i6 v)
  rw [c_set23] at this
  exact this
theorem c_pr (v : Int) (h : SepO W oo w (cparts k S ++ l)) : SepO W oo (w.setCell ⟨k.c, 28, none⟩ (i6 v)) (cparts k { S with d := { S.d with pr := v } } ++ l) := by
  have := h.set_blk (t := 57) (cs := ccells k S) (g := k.c) 0 rfl 28 (i6 v)
  rw [c_set28] at this
  exact this
/-- The row is not too long to grow. -/
def RB (n : Int) (S : CS) : Prop := (S.row.length : Int) ≤ n
def CK.rw (k : CK) (A : Option Addr) (n : Nat) : CK := { k with A := A, n := n }
theorem c_row {A : Option Addr} {n : Nat} {L : List Int} (h : SepO W oo w ((cparts k S ++ l).set 7 (rowP 3 A L.length n (L.map (Value.int .i64))))) : SepO W oo (w.setCell ⟨k.c, 25, none⟩ (.slice A L.length n)) (cparts (k.rw A n) { S with row := L } ++ l) := by
  have := h.set_blk (t := 57) (cs := ccells k S) (g := k.c) 0 rfl 25 (.slice A L.length n)
  have e : (ccells k S).setIfInBounds 25 (.slice A L.length n) = ccells (k.rw A n) { S with row := L } := by simp [ccells, CK.rw]
  rw [e] at this
  exact this
theorem CK.rw_same (k : CK) : k.rw k.A k.n = k := rfl
set_option maxRecDepth 20000 in
set_option maxHeartbeats 4000000 in
theorem Move_in (a : Int) (ha : I64 a) (hrb : RB 1000000000 S) (h : SepO W oo w (cparts k S ++ l)) : Calls Tryz.prog 73 #[pt k.c, .int .i64 a] w fun e w' => e = .returned (.int .i64 (S.move a).1) ∧ ∃ A n, SepO W oo w' (cparts (k.rw A n) (S.move a).2 ++ l) := by
  obtain ⟨⟨c13, c14, c15, _⟩, _, hbl, _⟩ := c_at h
  have H := Lib.hid h
  obtain ⟨i1, i2, i3, i4, i5⟩ := info_parts info_int
  obtain ⟨R, hR⟩ : ∃ R, S.move a = R := ⟨_, rfl⟩
  rw [hR]
  have HR := Lib.hid hR
  clear hR
  by_cases h0 : a = 0
  · obtain rfl : R = (a, S) := by rw [← HR.out]; unfold CS.move; rw [if_pos (.inl h0)]
    subst h0
    clear h
    go_enter Tryz.func73, Tryz.ntmps73
    go_wp2_with fail
    go_ret
    exact ⟨rfl, _, _, H.out⟩
  · have h0' : (a == 0) = false := beq_false_of_ne h0
    cases hf : S.y.isFrom a
    · obtain rfl : R = (a, S) := by rw [← HR.out]; unfold CS.move; rw [if_pos (.inr hf)]
      have HF := Lib.hid hf
      clear h hf h0
      go_enter Tryz.func73, Tryz.ntmps73
      go_wp2_with fail
      refine (bmp_read H.out (fun o ho => Bp.From_calls a w ho ha.2)).mono ?_
      rintro e w1 ⟨rfl, h1⟩
      rw [HF.out]
      have H1 := Lib.hid h1
      clear h1 H c13 c14 hbl
      go_wp2_with fail
      go_ret
      exact ⟨rfl, _, _, H1.out⟩
    · have HF := Lib.hid hf
      obtain ⟨b, hb⟩ : ∃ b, S.now a = b := ⟨_, rfl⟩
      have HB := Lib.hid hb
      by_cases hba : b = a
      · have hbb : (b != a) = false := by simpa using hba
        obtain ⟨x, hx⟩ : ∃ x, S.hd a = x := ⟨_, rfl⟩
        obtain ⟨b0, b1, b2, b3, b4, b5, b6, b7⟩ := hd_b S a
        rw [hx] at b0 b1 b2 b3 b4 b5 b6 b7
        have HX := Lib.hid hx
        have hwb := words_b (age1 x)
        obtain ⟨wd, hwd⟩ : ∃ wd, Ob.wordsOf (age1 x) = wd := ⟨_, rfl⟩
        rw [hwd] at hwb
        obtain ⟨g2, hg2⟩ : ∃ g2, (age1 x).age = g2 := ⟨_, rfl⟩
        obtain ⟨⟨⟨t0, old⟩, S1⟩, hpl⟩ : ∃ r, S.place wd g2 = r := ⟨_, rfl⟩
        have hRe : R = (t0, if old then { S1 with ws := Ob.mvW S1.ws a t0 (mvHd S x old), cop := wrap64 (S1.cop + wd), d := { S1.d with pr := wrap64 (S1.d.pr + wd) }, row := S1.row ++ [t0] } else { S1 with ws := Ob.mvW S1.ws a t0 (mvHd S x old), cop := wrap64 (S1.cop + wd) }) := by
          rw [← HR.out]
          unfold CS.move
          rw [if_neg (by simp [h0, hf]), if_neg (by rw [hb]; simp [hba])]
          simp only [hx, hwd, hg2, hpl]
        have HRE := Lib.hid hRe
        have HWD := Lib.hid hwd
        have HPL := Lib.hid hpl
        have hS1 : S1.ph = S.ph ∧ S1.par = S.par ∧ S1.cop = S.cop ∧ S1.row = S.row ∧ S1.d = S.d := by
          have : S1 = (S.place wd g2).2 := by rw [hpl]
          rw [this]
          unfold CS.place
          split
          · split <;> exact ⟨rfl, rfl, rfl, rfl, rfl⟩
          · exact ⟨rfl, rfl, rfl, rfl, rfl⟩
        have HS1 := Lib.hid hS1
        obtain ⟨q0, q1, q2, q3, q4, q5, q6⟩ := x
        simp only [] at b0 b1 b2 b3 b4 b5 b6 b7
        have hg2e : (if 7 < q2 + 1 then 7 else q2 + 1) = g2 := by rw [← hg2]; unfold age1; simp only []; (repeat' split) <;> omega
        have hag : age1 ⟨q0, q1, q2, q3, q4, q5, q6⟩ = ⟨q0, q1, g2, q3, q4, q5, q6⟩ := by rw [← hg2]; rfl
        rw [hag] at HWD
        have hmv : mvHd S ⟨q0, q1, q2, q3, q4, q5, q6⟩ old = if S.ph = 1 then ⟨q0, q1, g2, q3, q4, q5, old⟩ else ⟨q0, q1, g2, S.par, false, q5, old⟩ := by unfold mvHd; rw [hag]
        have HMV := Lib.hid hmv
        have hg2b : 0 ≤ g2 ∧ g2 ≤ 7 := by rw [← hg2e]; split <;> omega
        obtain ⟨hg20, hg21⟩ := hg2b
        obtain ⟨hwb0, hwb1⟩ := hwb
        clear h hf h0 hb hx hwd hg2 hpl hba hS1 hRe HR hag hmv
        go_enter Tryz.func73, Tryz.ntmps73
        go_wp2_with fail
        refine (bmp_read H.out (fun o ho => Bp.From_calls a w ho ha.2)).mono ?_
        rintro e w1 ⟨rfl, h1⟩
        rw [HF.out]
        have H1 := Lib.hid h1
        clear h1 H c13 c14 c15 hbl
        go_wp2_with fail
        refine (Now_in a ha H1.out).mono ?_
        rintro e w2 ⟨rfl, h2⟩
        rw [HB.out]
        have H2 := Lib.hid h2
        clear h2 H1
        go_wp2_with fail
        refine (head_in a H2.out).mono ?_
        rintro e w3 ⟨rfl, h3⟩
        rw [HX.out]
        simp only [Hea.Hd.cells]
        have H3 := Lib.hid h3
        clear h3 H2
        go_wp2_with fail
        obtain ⟨z, hzz⟩ : ∃ z, w3.heap.size = z := ⟨_, rfl⟩
        have hz := c_add H3.out 99 #[i6 q0, i6 q1, i6 g2, i6 q3, .bool q4, .bool q5, .bool q6]
        rw [hzz] at hz
        have HZ := Lib.hid hz
        refine (Ob.Words_calls ⟨q0, q1, g2, q3, q4, q5, q6⟩ _).mono ?_
        rintro e w4 ⟨rfl, k4⟩
        rw [HWD.out]
        have h4 := HZ.out.stay k4
        have zb := SepO.blk h4 (8 + l.length) c_last
        have z2 := zb.cell 2
        simp at z2
        have zl := zb.lt
        have H4 := Lib.hid h4
        clear h4 hz zb k4 HZ H3
        go_wp2_with fail
        refine (place_in wd g2 (by omega) H4.out).mono ?_
        rintro e w5 ⟨rfl, h5⟩
        rw [HPL.out] at h5 ⊢
        simp only [] at h5 ⊢
        obtain ⟨hs1, hs2, hs3, hs4, hs5⟩ := HS1.out
        obtain ⟨⟨c13, _⟩, ⟨c19, c20, _⟩, hbl, _⟩ := c_at h5
        rw [hs1] at c20
        rw [hs2] at c19
        have zb := SepO.blk h5 (8 + l.length) c_last
        have y0 := zb.cell 0
        have y1 := zb.cell 1
        have y2 := zb.cell 2
        have y3 := zb.cell 3
        have y4 := zb.cell 4
        have y5 := zb.cell 5
        have y6 := zb.cell 6
        have yf := zb.frozen
        simp at y0 y1 y2 y3 y4 y5 y6
        have yl := zb.lt
        have hzk : ¬ z = k.c := (c_blk h5).ne_ zb (by decide) ∘ Eq.symm
        have hs := h5.set_blk (8 + l.length) c_last 6 (.bool old)
        rw [c_last_set] at hs
        clear h5 H4 zb z2 zl hs1 hs2 hs3 hs4 hs5
        by_cases hph : S.ph = 1
        · have hphb : (S.ph != 1) = false := by simpa using hph
          have H5 := Lib.hid hs
          clear hs
          go_wp2_with fail
          generalize w5.setCell ⟨z, 6, none⟩ (.bool old) = w6 at H5 ⊢
          have H6 := H5
          clear H5 c13 c19 c20 hbl yf y0 y1 y2 y3 y4 y5 y6 yl
          have hx6 : SepO W oo w6 (cparts k S1 ++ (l ++ [blkP z 99 #[i6 q0, i6 q1, i6 g2, i6 q3, .bool q4, .bool q5, .bool old]])) := H6.out
          obtain ⟨⟨d13, _⟩, _, dbl, _⟩ := c_at hx6
          have fb := SepO.blk hx6 (8 + l.length) c_last
          have f0 := fb.cell 0
          have f1 := fb.cell 1
          have f2 := fb.cell 2
          have f3 := fb.cell 3
          have f4 := fb.cell 4
          have f5 := fb.cell 5
          have f6 := fb.cell 6
          simp at f0 f1 f2 f3 f4 f5 f6
          have hcm : ∀ w', SepO W oo w' (cparts k S1 ++ (l ++ [blkP z 99 #[i6 q0, i6 q1, i6 g2, i6 q3, .bool q4, .bool q5, .bool old]])) → Calls Tryz.prog 116 #[pt k.a, .int .i64 a, .int .i64 t0, .agg #[i6 q0, i6 q1, i6 g2, i6 q3, .bool q4, .bool q5, .bool old]] w' fun e w'' => ∃ v, e = .returned (.int .i64 v) ∧ SepO W oo w'' (cparts k { S1 with ws := Ob.mvW S1.ws a t0 ⟨q0, q1, g2, q3, q4, q5, old⟩ } ++ (l ++ [blkP z 99 #[i6 q0, i6 q1, i6 g2, i6 q3, .bool q4, .bool q5, .bool old]])) := fun w' h' =>
            (oba_write h' (fun o ho => Ob.Move_calls a t0 ⟨q0, q1, g2, q3, q4, q5, old⟩ ho)).mono fun e w'' ⟨h1, h2⟩ => ⟨_, h1, h2⟩
          have HCM := Lib.hid hcm
          clear hx6 fb hcm
          go_region_held3 (fun w' => w'.cell? ⟨k.c, 13, none⟩ = some (pt k.a) ∧ w'.cell? ⟨z, 0, none⟩ = some (i6 q0) ∧ w'.cell? ⟨z, 1, none⟩ = some (i6 q1) ∧ w'.cell? ⟨z, 2, none⟩ = some (i6 g2) ∧ w'.cell? ⟨z, 3, none⟩ = some (i6 q3) ∧ w'.cell? ⟨z, 4, none⟩ = some (.bool q4) ∧ w'.cell? ⟨z, 5, none⟩ = some (.bool q5) ∧ w'.cell? ⟨z, 6, none⟩ = some (.bool old)) (first | exact ⟨d13, f0, f1, f2, f3, f4, f5, f6⟩ | exact ⟨x13, x0, x1, x2, x3, x4, x5, x6⟩ | go_keep) ((go_at_call 116; (with_reducible refine (HCM.out _ ?hx).mono ?_); (case hx => exact H6.out.drewN _); rintro e w7 ⟨v7, rfl, h7⟩; have x13 := (c_at h7).1.1; have xb := SepO.blk h7 (8 + l.length) c_last; have x0 := xb.cell 0; have x1 := xb.cell 1; have x2 := xb.cell 2; have x3 := xb.cell 3; have x4 := xb.cell 4; have x5 := xb.cell 5; have x6 := xb.cell 6; simp at x0 x1 x2 x3 x4 x5 x6))
          have h8 := c_drop h7
          obtain ⟨hs1, hs2, hs3, hs4, hs5⟩ := HS1.out
          obtain ⟨_, ⟨_, _, _, _, c23, _, c25⟩, cbl, cf⟩ := c_at h8
          have c28 : w7.cell? ⟨k.c, 28, none⟩ = some (i6 S1.d.pr) := (c_blk h8).cell 28
          have h9 := c_cop (wrap64 (S1.cop + wd)) h8
          have H9 := Lib.hid h9
          simp only [] at c23 c25
          clear h8 h9 h7 x13 xb x0 x1 x2 x3 x4 x5 x6 d13 f0 f1 f2 f3 f4 f5 f6 H6 HCM hs1 hs2 hs3 hs4 hs5 dbl
          cases hol : old
          · subst hol
            obtain rfl : R = (t0, { S1 with ws := Ob.mvW S1.ws a t0 ⟨q0, q1, g2, q3, q4, q5, false⟩, cop := wrap64 (S1.cop + wd) }) := by
              rw [HRE.out, HMV.out]
              simp [hph]
            go_wp2_with fail
            go_ret
            exact ⟨rfl, _, _, H9.out⟩
          · subst hol
            obtain rfl : R = (t0, { S1 with ws := Ob.mvW S1.ws a t0 ⟨q0, q1, g2, q3, q4, q5, true⟩, cop := wrap64 (S1.cop + wd), d := { S1.d with pr := wrap64 (S1.d.pr + wd) }, row := S1.row ++ [t0] }) := by
              rw [HRE.out, HMV.out]
              simp [hph]
            have h10 := c_pr (wrap64 (S1.d.pr + wd)) H9.out
            have H10 := Lib.hid h10
            clear h10 H9
            have hrl : (S1.row.length : Int) ≤ 1000000000 := by rw [HS1.out.2.2.2.1]; exact hrb
            have hc1 : (((w7.setCell ⟨k.c, 23, none⟩ (i6 (wrap64 (S1.cop + wd)))).setCell ⟨k.c, 28, none⟩ (i6 (wrap64 (S1.d.pr + wd)))).alloc (.cells #[.int .i64 t0] 3)).cell? ⟨w7.heap.size, 0, none⟩ = some (.int .i64 t0) := by
              have := (Blk.new ((w7.setCell ⟨k.c, 23, none⟩ (i6 (wrap64 (S1.cop + wd)))).setCell ⟨k.c, 28, none⟩ (i6 (wrap64 (S1.d.pr + wd)))) 3 #[.int .i64 t0]).cell 0
              simpa using this
            have HC1 := Lib.hid hc1
            clear hc1
            go_wp2_with (at_builtin; refine wpList_append_sep rfl _ _ 53 rfl 3 i1 (.int .i64 0) 8 Tryz.underlying53 i2 i3 i4 i5 rfl k.A S1.row.length k.n (S1.row.map (Value.int .i64)) rfl w7.heap.size (.int .i64 t0) rfl (H10.out.alloc (.cells #[.int .i64 t0] 3)) 7 rfl HC1.out rfl ?c2 ?c3 ?_)
            case c2 => omega
            case c3 => omega
            intro A2 n2 w8 h11
            have e1 : (S1.row ++ [t0]).length = S1.row.length + 1 := by simp
            have h12 := c_row (k := k) (S := { S1 with ws := Ob.mvW S1.ws a t0 ⟨q0, q1, g2, q3, q4, q5, true⟩, cop := wrap64 (S1.cop + wd), d := { S1.d with pr := wrap64 (S1.d.pr + wd) } }) (A := A2) (n := n2) (L := S1.row ++ [t0]) (w := w8) (l := l) (W := W) (oo := oo) (by
              rw [e1, List.map_append]
              exact h11)
            rw [e1] at h12
            have H12 := Lib.hid h12
            have gb := h11.blk (g := k.c) (t := 57) (cs := ccells k { S1 with ws := Ob.mvW S1.ws a t0 ⟨q0, q1, g2, q3, q4, q5, true⟩, cop := wrap64 (S1.cop + wd), d := { S1.d with pr := wrap64 (S1.d.pr + wd) } }) 0 rfl
            have g25 : w8.cell? ⟨k.c, 25, none⟩ = some (.slice k.A S1.row.length k.n) := gb.cell 25
            have gbl := gb.lt
            have gf := gb.frozen 25
            clear gb
            clear h11 h12 H10
            go_wp2_with fail
            go_ret
            exact ⟨rfl, A2, n2, H12.out⟩
        · have hphb : (S.ph != 1) = true := by simpa using hph
          have hs1 := hs.set_blk (8 + l.length) c_last 3 (i6 S.par)
          rw [c_last_set] at hs1
          have hs2 := hs1.set_blk (8 + l.length) c_last 4 (.bool false)
          rw [c_last_set] at hs2
          have H5 := Lib.hid hs2
          clear hs hs1 hs2
          go_wp2_with fail
          generalize ((w5.setCell ⟨z, 6, none⟩ (.bool old)).setCell ⟨z, 3, none⟩ (i6 S.par)).setCell ⟨z, 4, none⟩ (.bool false) = w6 at H5 ⊢
          have H6 := H5
          clear H5 c13 c19 c20 hbl yf y0 y1 y2 y3 y4 y5 y6 yl
          have hx6 : SepO W oo w6 (cparts k S1 ++ (l ++ [blkP z 99 #[i6 q0, i6 q1, i6 g2, i6 S.par, .bool false, .bool q5, .bool old]])) := H6.out
          obtain ⟨⟨d13, _⟩, _, dbl, _⟩ := c_at hx6
          have fb := SepO.blk hx6 (8 + l.length) c_last
          have f0 := fb.cell 0
          have f1 := fb.cell 1
          have f2 := fb.cell 2
          have f3 := fb.cell 3
          have f4 := fb.cell 4
          have f5 := fb.cell 5
          have f6 := fb.cell 6
          simp at f0 f1 f2 f3 f4 f5 f6
          have hcm : ∀ w', SepO W oo w' (cparts k S1 ++ (l ++ [blkP z 99 #[i6 q0, i6 q1, i6 g2, i6 S.par, .bool false, .bool q5, .bool old]])) → Calls Tryz.prog 116 #[pt k.a, .int .i64 a, .int .i64 t0, .agg #[i6 q0, i6 q1, i6 g2, i6 S.par, .bool false, .bool q5, .bool old]] w' fun e w'' => ∃ v, e = .returned (.int .i64 v) ∧ SepO W oo w'' (cparts k { S1 with ws := Ob.mvW S1.ws a t0 ⟨q0, q1, g2, S.par, false, q5, old⟩ } ++ (l ++ [blkP z 99 #[i6 q0, i6 q1, i6 g2, i6 S.par, .bool false, .bool q5, .bool old]])) := fun w' h' =>
            (oba_write h' (fun o ho => Ob.Move_calls a t0 ⟨q0, q1, g2, S.par, false, q5, old⟩ ho)).mono fun e w'' ⟨h1, h2⟩ => ⟨_, h1, h2⟩
          have HCM := Lib.hid hcm
          clear hx6 fb hcm
          go_region_held3 (fun w' => w'.cell? ⟨k.c, 13, none⟩ = some (pt k.a) ∧ w'.cell? ⟨z, 0, none⟩ = some (i6 q0) ∧ w'.cell? ⟨z, 1, none⟩ = some (i6 q1) ∧ w'.cell? ⟨z, 2, none⟩ = some (i6 g2) ∧ w'.cell? ⟨z, 3, none⟩ = some (i6 S.par) ∧ w'.cell? ⟨z, 4, none⟩ = some (.bool false) ∧ w'.cell? ⟨z, 5, none⟩ = some (.bool q5) ∧ w'.cell? ⟨z, 6, none⟩ = some (.bool old)) (first | exact ⟨d13, f0, f1, f2, f3, f4, f5, f6⟩ | exact ⟨x13, x0, x1, x2, x3, x4, x5, x6⟩ | go_keep) ((go_at_call 116; (with_reducible refine (HCM.out _ ?hx).mono ?_); (case hx => exact H6.out.drewN _); rintro e w7 ⟨v7, rfl, h7⟩; have x13 := (c_at h7).1.1; have xb := SepO.blk h7 (8 + l.length) c_last; have x0 := xb.cell 0; have x1 := xb.cell 1; have x2 := xb.cell 2; have x3 := xb.cell 3; have x4 := xb.cell 4; have x5 := xb.cell 5; have x6 := xb.cell 6; simp at x0 x1 x2 x3 x4 x5 x6))
          have h8 := c_drop h7
          obtain ⟨hs1, hs2, hs3, hs4, hs5⟩ := HS1.out
          obtain ⟨_, ⟨_, _, _, _, c23, _, c25⟩, cbl, cf⟩ := c_at h8
          have c28 : w7.cell? ⟨k.c, 28, none⟩ = some (i6 S1.d.pr) := (c_blk h8).cell 28
          have h9 := c_cop (wrap64 (S1.cop + wd)) h8
          have H9 := Lib.hid h9
          simp only [] at c23 c25
          clear h8 h9 h7 x13 xb x0 x1 x2 x3 x4 x5 x6 d13 f0 f1 f2 f3 f4 f5 f6 H6 HCM hs1 hs2 hs3 hs4 hs5 dbl
          cases hol : old
          · subst hol
            obtain rfl : R = (t0, { S1 with ws := Ob.mvW S1.ws a t0 ⟨q0, q1, g2, S.par, false, q5, false⟩, cop := wrap64 (S1.cop + wd) }) := by
              rw [HRE.out, HMV.out]
              simp [hph]
            go_wp2_with fail
            go_ret
            exact ⟨rfl, _, _, H9.out⟩
          · subst hol
            obtain rfl : R = (t0, { S1 with ws := Ob.mvW S1.ws a t0 ⟨q0, q1, g2, S.par, false, q5, true⟩, cop := wrap64 (S1.cop + wd), d := { S1.d with pr := wrap64 (S1.d.pr + wd) }, row := S1.row ++ [t0] }) := by
              rw [HRE.out, HMV.out]
              simp [hph]
            have h10 := c_pr (wrap64 (S1.d.pr + wd)) H9.out
            have H10 := Lib.hid h10
            clear h10 H9
            have hrl : (S1.row.length : Int) ≤ 1000000000 := by rw [HS1.out.2.2.2.1]; exact hrb
            have hc1 : (((w7.setCell ⟨k.c, 23, none⟩ (i6 (wrap64 (S1.cop + wd)))).setCell ⟨k.c, 28, none⟩ (i6 (wrap64 (S1.d.pr + wd)))).alloc (.cells #[.int .i64 t0] 3)).cell? ⟨w7.heap.size, 0, none⟩ = some (.int .i64 t0) := by
              have := (Blk.new ((w7.setCell ⟨k.c, 23, none⟩ (i6 (wrap64 (S1.cop + wd)))).setCell ⟨k.c, 28, none⟩ (i6 (wrap64 (S1.d.pr + wd)))) 3 #[.int .i64 t0]).cell 0
              simpa using this
            have HC1 := Lib.hid hc1
            clear hc1
            go_wp2_with (at_builtin; refine wpList_append_sep rfl _ _ 53 rfl 3 i1 (.int .i64 0) 8 Tryz.underlying53 i2 i3 i4 i5 rfl k.A S1.row.length k.n (S1.row.map (Value.int .i64)) rfl w7.heap.size (.int .i64 t0) rfl (H10.out.alloc (.cells #[.int .i64 t0] 3)) 7 rfl HC1.out rfl ?c2 ?c3 ?_)
            case c2 => omega
            case c3 => omega
            intro A2 n2 w8 h11
            have e1 : (S1.row ++ [t0]).length = S1.row.length + 1 := by simp
            have h12 := c_row (k := k) (S := { S1 with ws := Ob.mvW S1.ws a t0 ⟨q0, q1, g2, S.par, false, q5, true⟩, cop := wrap64 (S1.cop + wd), d := { S1.d with pr := wrap64 (S1.d.pr + wd) } }) (A := A2) (n := n2) (L := S1.row ++ [t0]) (w := w8) (l := l) (W := W) (oo := oo) (by
              rw [e1, List.map_append]
              exact h11)
            rw [e1] at h12
            have H12 := Lib.hid h12
            have gb := h11.blk (g := k.c) (t := 57) (cs := ccells k { S1 with ws := Ob.mvW S1.ws a t0 ⟨q0, q1, g2, S.par, false, q5, true⟩, cop := wrap64 (S1.cop + wd), d := { S1.d with pr := wrap64 (S1.d.pr + wd) } }) 0 rfl
            have g25 : w8.cell? ⟨k.c, 25, none⟩ = some (.slice k.A S1.row.length k.n) := gb.cell 25
            have gbl := gb.lt
            have gf := gb.frozen 25
            clear gb
            clear h11 h12 H10
            go_wp2_with fail
            go_ret
            exact ⟨rfl, A2, n2, H12.out⟩
      · obtain rfl : R = (b, S) := by rw [← HR.out]; unfold CS.move; rw [if_neg (by simp [h0, hf]), if_pos (by rw [hb]; exact hba), hb]
        have hbb : (b != a) = true := by simpa using hba
        clear h hf h0 hb hba
        go_enter Tryz.func73, Tryz.ntmps73
        go_wp2_with fail
        refine (bmp_read H.out (fun o ho => Bp.From_calls a w ho ha.2)).mono ?_
        rintro e w1 ⟨rfl, h1⟩
        rw [HF.out]
        have H1 := Lib.hid h1
        clear h1 H c13 c14 c15 hbl
        go_wp2_with fail
        refine (Now_in a ha H1.out).mono ?_
        rintro e w2 ⟨rfl, h2⟩
        rw [HB.out]
        have H2 := Lib.hid h2
        clear h2 H1
        go_wp2_with fail
        go_ret
        exact ⟨rfl, _, _, H2.out⟩
end
end Go.Proofs.YtihmkkjmnbehbaaGreat.Wh
