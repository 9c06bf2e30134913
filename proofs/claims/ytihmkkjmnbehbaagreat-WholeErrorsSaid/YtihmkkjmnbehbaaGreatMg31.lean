/- Texts of the whole heap, joined: WhS WqN. No condition beside those that each lemma names. -/
import Derived.Test.YtihmkkjmnbehbaaGreatMg22
import Derived.Test.YtihmkkjmnbehbaaGreatMg30
/- A bit of the minor cycle, and many: the walks. Condition: the row, the stack and the place of the scan are of 64 bits. -/
set_option linter.unusedVariables false
set_option linter.unusedSimpArgs false
namespace Go.Proofs.YtihmkkjmnbehbaaGreat.Wh
open Go.RowKit Go.Proofs.YtihmkkjmnbehbaaGreat.W Go.Proofs.YtihmkkjmnbehbaaGreat.Sm
/-- Numbers of a heap that are of 64 bits. -/
structure NB (S : CS) : Prop where
  rb : RB 700000000 S
  gb : GB S
  row : ∀ x ∈ S.row, I64 x
  scan : S.mv = true → 0 ≤ S.scan ∧ S.scan ≤ 1048576
theorem partL_b : ∀ (L : List Int) (n : Int) (S : CS), n ≤ (CS.partL L n S).1 ∧ (CS.partL L n S).1 ≤ n + 66 * L.length := by
  intro L
  induction L with
  | nil => intro n S; exact ⟨Int.le_refl _, by show n ≤ n + 66 * ((0 : Nat) : Int); omega⟩
  | cons x r ih =>
    intro n S
    unfold CS.partL
    have := ih (n + (S.noted x).1) (S.noted x).2
    have := noted_row S x
    simp only [List.length_cons]
    omega
section
variable {W w : World} {oo : Nat → Prop} {k : CK} {S : CS} {l : List Pr} {F : FuncId} {args : Array Value}
theorem r_ok (h : SepO W oo w (cparts k S ++ l)) : S.r.ok := by
  obtain ⟨o, ⟨r, hok, _⟩, _⟩ := h.get 4 rfl
  exact hok
theorem rNext_in (h : SepO W oo w (cparts k S ++ l)) : Calls Tryz.prog 126 #[pt k.r] w fun e w' => e = .returned (Re.four S.r.said) ∧ SepO W oo w' (cparts k { S with r := S.r.next } ++ l) := by
  obtain ⟨o, hp, _, hup⟩ := h.open_ 4 rfl
  refine (Re.Next_calls hp).mono ?_
  rintro e w' ⟨rfl, hr, hk⟩
  exact ⟨rfl, hup w' (Re.Rms k.r S.r.next) hr hk⟩
theorem yBegin_in (h : SepO W oo w (cparts k S ++ l)) : Calls Tryz.prog 88 #[pt k.y] w fun e w' => e = .returned (.tuple #[.int .i64 S.y.here, .int .i64 S.y.there]) ∧ SepO W oo w' (cparts k S ++ l) :=
  bmp_read h (fun o ho => (Bp.Begin_calls w ho).mono fun e w' ⟨he, n, hw⟩ => ⟨he, hw ▸ (Keep.refl _ w).drewN n⟩)
theorem yUsed_in (h : SepO W oo w (cparts k S ++ l)) : Calls Tryz.prog 90 #[pt k.y] w fun e w' => e = .returned (.int .i64 S.y.used) ∧ SepO W oo w' (cparts k S ++ l) :=
  bmp_read h (fun o ho => (Bp.Used_calls w ho).mono fun e w' ⟨he, n, hw⟩ => ⟨he, hw ▸ (Keep.refl _ w).drewN n⟩)
theorem said_b (h : S.r.ok) (hs : S.r.said.2.1 = false) : I64 S.r.said.1.1 := by
  unfold Re.RS.said at hs ⊢
  obtain ⟨⟨f0, f1⟩, ⟨w0, w1⟩, hn, ht⟩ := h
  cases he : S.r.tl with
  | cons a L =>
    have := ht a (by rw [he]; exact List.mem_cons_self)
    exact ⟨by simp only []; omega, by simp only []; omega⟩
  | nil =>
    rw [he] at hs
    simp only [] at hs ⊢
    cases hf : Cd.fstI S.r.tm with
    | none => exact ⟨by simp, by simp⟩
    | some n => rw [hf] at hs; cases hs
set_option maxRecDepth 20000 in
set_option maxHeartbeats 8000000 in
theorem Step_in (hn : NB S) (h : SepO W oo w (cparts k S ++ l)) : Calls Tryz.prog 89 #[pt k.c] w fun e w' => e = .returned (.tuple #[.int .i64 S.minStep.1.1, .bool S.minStep.1.2]) ∧ ∃ A m, SepO W oo w' (cparts (k.rw A m) S.minStep.2 ++ l) := by
  obtain ⟨⟨_, c14, _, c16, _, _⟩, ⟨_, _, c21, c22, _, _, c25⟩, hbl, hfr⟩ := c_at h
  have hy := y_ok h
  have hr := r_ok h
  have f22 := hfr 22
  obtain ⟨rb, gb, rowb, sc⟩ := hn
  have H := Lib.hid h
  obtain ⟨R, hR⟩ : ∃ R, S.minStep = R := ⟨_, rfl⟩
  rw [hR]
  cases hm : S.mv
  · obtain rfl : R = ((0, false), S) := by rw [← hR]; unfold CS.minStep; rw [if_pos hm]
    rw [hm] at c21
    clear h hR hfr
    go_enter Tryz.func89, Tryz.ntmps89
    go_wp2_with fail
    go_ret2
    exact ⟨rfl, _, _, H.out⟩
  · rw [hm] at c21
    obtain ⟨sc0, sc1⟩ := sc hm
    clear sc
    cases hrow : S.row with
    | cons a r =>
      have ha : I64 a := rowb a (by rw [hrow]; exact List.mem_cons_self)
      have hrb2 : RB 900000000 S := by unfold RB at rb ⊢; omega
      have hl : (S.row.length : Int) = (r.length : Int) + 1 := by rw [hrow]; simp
      have e1 := step_cons hm hrow
      rw [hR] at e1
      have hrw := row_in (k := k) (l := l) (W := W) (w := w) (oo := oo) ha hrow hrb2 h
      obtain ⟨x, hx⟩ : ∃ x, (if S.o.has a = false then (1 : Int) else (CS.through { S with row := r } a).1) = x := ⟨_, rfl⟩
      obtain ⟨T, hT⟩ : ∃ T, (if S.o.has a = false then ({ S with row := r } : CS) else (CS.through { S with row := r } a).2) = T := ⟨_, rfl⟩
      rw [hx, hT] at hrw
      have hxb : 0 ≤ x ∧ x ≤ 66 := by
        rw [← hx]
        split
        · omega
        · have := words_b (CS.hd { S with row := r } a); unfold CS.through; simp only []; omega
      have hRe : R = ((x + 1, true), T) := by
        rw [e1, ← hx, ← hT]
        split <;> rfl
      subst hRe
      have hwx : wrap64 (x + 1) = x + 1 := by unfold wrap64; omega
      have HW := Lib.hid hrw
      have hd : decide ((0 : Int) < S.row.length) = true := by simp; omega
      clear h hR hfr hrw e1 hx hT hrow hm
      go_enter Tryz.func89, Tryz.ntmps89
      go_wp2_with fail
      refine HW.out.mono ?_
      rintro e w1 ⟨rfl, A, m, h1⟩
      have H1 := Lib.hid h1
      clear h1
      go_wp2_with fail
      go_ret2
      exact ⟨rfl, _, _, H1.out⟩
    | nil =>
      have hl : (S.row.length : Int) = 0 := by rw [hrow]; rfl
      have e1 := step_nil hm hrow
      rw [hR] at e1
      obtain ⟨q, hq⟩ : ∃ q, S.r.said = q := ⟨_, rfl⟩
      have hsb := said_b hr
      rw [hq] at e1 hsb
      have hd : decide ((0 : Int) < S.row.length) = false := by simp; omega
      obtain ⟨⟨q1, q2⟩, q3, q4⟩ := q
      have HQ := Lib.hid hq
      cases q4
      · simp only [] at e1
        rw [if_neg (by simp)] at e1
        have HE := Lib.hid e1
        have hyy := hy
        unfold Bp.Sp.ok at hyy
        have hhu : 0 ≤ S.y.here ∧ S.y.here ≤ 2097152 ∧ 0 ≤ S.y.used ∧ S.y.used ≤ 1048576 := by unfold Bp.Sp.here Bp.Sp.used; split <;> omega
        obtain ⟨hu0, hu1, hu2, hu3⟩ := hhu
        have hwu : wrap64 (S.y.here + S.y.used) = S.y.here + S.y.used := by unfold wrap64; omega
        clear h hR hfr e1 hrow hq hyy
        go_enter Tryz.func89, Tryz.ntmps89
        go_wp2_with fail
        refine (rNext_in H.out).mono ?_
        rintro e w1 ⟨rfl, h1⟩
        rw [HQ.out]
        obtain ⟨⟨_, d14, _⟩, ⟨_, _, _, d22, _⟩, dbl, _⟩ := c_at h1
        have H1 := Lib.hid h1
        simp only [Re.four]
        clear h1
        go_wp2_with fail
        refine (yBegin_in H1.out).mono ?_
        rintro e w2 ⟨rfl, h2⟩
        obtain ⟨⟨_, e14, _⟩, ⟨_, _, _, e22, _⟩, ebl, _⟩ := c_at h2
        have H2 := Lib.hid h2
        clear h2 H1 d14 d22 dbl
        replace e22 : w2.cell? ⟨k.c, 22, none⟩ = some (i6 S.scan) := e22
        replace e14 : w2.cell? ⟨k.c, 14, none⟩ = some (pt k.y) := e14
        have hc : ∀ w', SepO W oo w' (cparts k { S with r := S.r.next } ++ l) → Calls Tryz.prog 90 #[pt k.y] w' fun e w'' => e = .returned (.int .i64 S.y.used) ∧ SepO W oo w'' (cparts k { S with r := S.r.next } ++ l) := fun w' h' => yUsed_in h'
        have HC := Lib.hid hc
        obtain ⟨hr_, hhr⟩ : ∃ x, S.y.here = x := ⟨_, rfl⟩
        obtain ⟨us, hus⟩ : ∃ x, S.y.used = x := ⟨_, rfl⟩
        show match Ending.returned (.tuple #[.int .i64 S.y.here, .int .i64 S.y.there]), w2 with | _, _ => _
        rw [hhr] at hu0 hu1 hwu HE ⊢
        rw [hus] at hu2 hu3 hwu HE HC
        have hwi : IntKind.i64.wrap (hr_ + us) = hr_ + us := by rw [IntWalk.i64_left]; exact hwu
        clear hc hhr hus c14 c16 c21 c22 c25 hbl
        by_cases hlt : S.scan < hr_ + us
        · have dlt : decide (S.scan < hr_ + us) = true := by simpa using hlt
          go_wp2_with fail
          go_region_held3 (fun w' => w'.cell? ⟨k.c, 14, none⟩ = some (pt k.y) ∧ w'.cell? ⟨k.c, 22, none⟩ = some (i6 S.scan)) (first | exact ⟨e14, e22⟩ | exact ⟨f14, f22⟩ | go_keep) ((go_at_call 90; (with_reducible refine (HC.out _ ?hx).mono ?_); (case hx => exact H2.out.drewN _); rintro e w3 ⟨rfl, h3⟩; have f14 : w3.cell? ⟨k.c, 14, none⟩ = some (pt k.y) := (c_at h3).1.2.1; have f22 : w3.cell? ⟨k.c, 22, none⟩ = some (i6 S.scan) := (c_at h3).2.1.2.2.2.1))
          have gbl := (c_at h3).2.2.1
          have hb3 := (c_at h3).2.1.2.2.2.1
          replace hb3 : w3.cell? ⟨k.c, 22, none⟩ = some (i6 S.scan) := hb3
          have H3 := Lib.hid h3
          clear h3 H2 e14 e22 ebl f14 f22 HC
          obtain ⟨T, hT⟩ : ∃ T, CS.through { S with r := S.r.next } S.scan = T := ⟨_, rfl⟩
          have hTb : 2 ≤ T.1 ∧ T.1 ≤ 66 := by rw [← hT]; exact words_b _
          have hRe : R = ((T.1, true), { T.2 with scan := wrap64 (T.2.scan + T.1) }) := by rw [HE.out, if_pos hlt, hT]
          subst hRe
          have hrb2 : RB 900000000 { S with r := S.r.next } := by unfold RB at rb ⊢; simp only []; omega
          have isc : I64 S.scan := ⟨by omega, by omega⟩
          obtain ⟨T1, T2⟩ := T
          have HT := Lib.hid hT
          clear hT HE
          go_wp2_with fail
          refine (through_in S.scan isc hrb2 H3.out).mono ?_
          rintro e w4 ⟨rfl, A, m, h4⟩
          rw [HT.out] at h4 ⊢
          simp only [] at h4 ⊢
          obtain ⟨_, ⟨_, _, _, g22, _⟩, gbl4, gfr⟩ := c_at h4
          replace g22 : w4.cell? ⟨k.c, 22, none⟩ = some (i6 T2.scan) := g22
          replace gbl4 : k.c < w4.heap.size := gbl4
          have gf22 : w4.frozen? ⟨k.c, 22, none⟩ = false := gfr 22
          have h5 := c_scan (wrap64 (T2.scan + T1)) h4
          have H5 := Lib.hid h5
          clear h4 h5 H3 gfr
          go_wp2_with fail
          go_ret2
          exact ⟨rfl, _, _, H5.out⟩
        · have dlt : decide (S.scan < hr_ + us) = false := by simpa using hlt
          have hle : hr_ + us ≤ S.scan := by omega
          go_wp2_with fail
          go_region_held3 (fun w' => w'.cell? ⟨k.c, 14, none⟩ = some (pt k.y) ∧ w'.cell? ⟨k.c, 22, none⟩ = some (i6 S.scan)) (first | exact ⟨e14, e22⟩ | exact ⟨f14, f22⟩ | go_keep) ((go_at_call 90; (with_reducible refine (HC.out _ ?hx).mono ?_); (case hx => exact H2.out.drewN _); rintro e w3 ⟨rfl, h3⟩; have f14 : w3.cell? ⟨k.c, 14, none⟩ = some (pt k.y) := (c_at h3).1.2.1; have f22 : w3.cell? ⟨k.c, 22, none⟩ = some (i6 S.scan) := (c_at h3).2.1.2.2.2.1))
          have gbl := (c_at h3).2.2.1
          have hb3 := (c_at h3).2.1.2.2.2.1
          replace hb3 : w3.cell? ⟨k.c, 22, none⟩ = some (i6 S.scan) := hb3
          have H3 := Lib.hid h3
          clear h3 H2 e14 e22 ebl f14 f22 HC
          have hRe : R = ((2, false), CS.finish { S with r := S.r.next }) := by rw [HE.out, if_neg (by omega)]
          subst hRe
          have HG : GB { S with r := S.r.next } := gb
          clear HE
          go_wp2_with fail
          refine (finish_in HG H3.out).mono ?_
          rintro e w4 ⟨rfl, h4⟩
          have H4 := Lib.hid h4
          clear h4 H3
          go_wp2_with fail
          go_ret2
          exact ⟨rfl, _, _, H4.out⟩
      · simp only [] at e1 hsb
        rw [if_pos trivial] at e1
        cases q3
        · replace hsb : I64 q1 := hsb (by first | trivial | rfl)
          rw [if_neg (by simp)] at e1
          obtain ⟨T, hT⟩ : ∃ T, CS.noted { S with r := S.r.next } q1 = T := ⟨_, rfl⟩
          have hTb := noted_row { S with r := S.r.next } q1
          rw [hT] at hTb e1
          obtain ⟨_, t0, t1⟩ := hTb
          obtain ⟨T1, T2⟩ := T
          simp only [] at t0 t1 e1
          subst e1
          have hwx : wrap64 (T1 + 1) = T1 + 1 := by unfold wrap64; omega
          have hrb2 : RB 900000000 { S with r := S.r.next } := by unfold RB at rb ⊢; simp only []; omega
          have HT := Lib.hid hT
          clear h hR hfr hrow hq hT
          go_enter Tryz.func89, Tryz.ntmps89
          go_wp2_with fail
          refine (rNext_in H.out).mono ?_
          rintro e w1 ⟨rfl, h1⟩
          rw [HQ.out]
          have H1 := Lib.hid h1
          simp only [Re.four]
          clear h1
          go_wp2_with fail
          refine (noted_in q1 hsb hrb2 H1.out).mono ?_
          rintro e w2 ⟨rfl, A, m, h2⟩
          rw [HT.out] at h2 ⊢
          simp only [] at h2 ⊢
          have H2 := Lib.hid h2
          clear h2 H1
          go_wp2_with fail
          go_ret2
          exact ⟨rfl, _, _, H2.out⟩
        · rw [if_pos rfl] at e1
          obtain ⟨T, hT⟩ : ∃ T, CS.part { S with r := S.r.next } q1 q2 = T := ⟨_, rfl⟩
          have hTb := partL_b (Ma.stL S.o.f S.o.w q1 q2 S.o.l 0) 0 { S with r := S.r.next }
          have hsl := Ma.starts_len (o_ok h) q1 q2
          have hT' : CS.partL (Ma.stL S.o.f S.o.w q1 q2 S.o.l 0) 0 { S with r := S.r.next } = T := hT
          rw [hT'] at hTb
          rw [hT] at e1
          obtain ⟨T1, T2⟩ := T
          obtain ⟨t0, t1⟩ := hTb
          simp only [] at t0 t1 e1
          subst e1
          have t2 : T1 ≤ 66 * 16384 := by omega
          have hwx : wrap64 (T1 + 1) = T1 + 1 := by unfold wrap64; omega
          have hrb2 : RB 800000000 { S with r := S.r.next } := by unfold RB at rb ⊢; simp only []; omega
          have HT := Lib.hid hT
          clear h hR hfr hrow hq hT hT' t1 hsl
          go_enter Tryz.func89, Tryz.ntmps89
          go_wp2_with fail
          refine (rNext_in H.out).mono ?_
          rintro e w1 ⟨rfl, h1⟩
          rw [HQ.out]
          have H1 := Lib.hid h1
          simp only [Re.four]
          clear h1
          go_wp2_with fail
          refine (part_in q1 q2 hrb2 H1.out).mono ?_
          rintro e w2 ⟨rfl, A, m, h2⟩
          rw [HT.out] at h2 ⊢
          simp only [] at h2 ⊢
          have H2 := Lib.hid h2
          clear h2 H1
          go_wp2_with fail
          go_ret2
          exact ⟨rfl, _, _, H2.out⟩
end
end Go.Proofs.YtihmkkjmnbehbaaGreat.Wh
/- How much the major cycle has to do; looking through one object keeps what holds of a heap. No condition. -/
set_option linter.unusedVariables false
set_option linter.unusedSimpArgs false
namespace Go.Proofs.YtihmkkjmnbehbaaGreat.Wh
open Go.RowKit Go.Proofs.YtihmkkjmnbehbaaGreat.W
/-- Places whose word is not of this cycle. -/
def wht (ws : List Int) (par : Int) : Nat := (List.range ws.length).countP (fun i : Nat => decide ((Ob.hdAt ws (i : Int)).par ≠ par))
theorem countP_one {p q : Nat → Bool} {L : List Nat} (hn : L.Nodup) {b : Nat} (hb : b ∈ L) (h : ∀ i ∈ L, i ≠ b → p i = q i) : L.countP p + (if q b then 1 else 0) = L.countP q + (if p b then 1 else 0) := by
  induction L with
  | nil => cases hb
  | cons x r ih =>
    rw [List.nodup_cons] at hn
    rw [List.countP_cons, List.countP_cons]
    by_cases e : x = b
    · subst e
      have : r.countP p = r.countP q := List.countP_congr fun i hi => by rw [h i (List.mem_cons_of_mem _ hi) (fun e => hn.1 (e ▸ hi))]
      rw [this]; omega
    · have hb' : b ∈ r := by rcases List.mem_cons.1 hb with h | h; exact (e h.symm).elim; exact h
      have := ih hn.2 hb' (fun i hi => h i (List.mem_cons_of_mem _ hi))
      rw [h x List.mem_cons_self e]; omega
theorem wht_set {ws : List Int} {b : Int} {k : Hd} (hg : k.good) (b0 : 0 ≤ b) (b1 : b < ws.length) (par : Int) : wht (shW ws b k) par + (if (Ob.hdAt ws b).par ≠ par then 1 else 0) = wht ws par + (if k.par ≠ par then 1 else 0) := by
  have e : shW ws b k = ws.set b.toNat k.word := by unfold shW; rw [if_pos hg, st_eq _ b0 b1]
  have hl : (shW ws b k).length = ws.length := by rw [e]; simp
  have ld := ld_set (ws := ws) (a := b) k.word b0 b1
  have hd : ∀ a, Ob.hdAt (shW ws b k) a = if a = b then k else Ob.hdAt ws a := fun a => by
    unfold Ob.hdAt
    rw [e, ld]
    split
    · exact Hea.hdOf_word hg
    · rfl
  unfold wht
  rw [hl]
  have hb : ((b.toNat : Nat) : Int) = b := by omega
  have := countP_one (p := fun i : Nat => decide ((Ob.hdAt (shW ws b k) (i : Int)).par ≠ par)) (q := fun i : Nat => decide ((Ob.hdAt ws (i : Int)).par ≠ par)) (L := List.range ws.length) List.nodup_range (b := b.toNat) (List.mem_range.2 (by omega)) (fun i _ hi => by
    simp only [hd]; rw [if_neg (by omega)])
  have e1 : Ob.hdAt (shW ws b k) b = k := by rw [hd, if_pos rfl]
  simp only [hb, e1] at this
  simpa using this
/-- How much marking is to be done still. -/
def msM (S : CS) : Int := 75 * wht S.ws S.par + S.gl.length + (if S.gz then 70 else 0)
/-- What marking leaves as it is. -/
structure Mstep (S : CS) (m : Mp) (S' : CS) (m' : Mp) : Prop where
  eq : ∃ ws gl gz, S' = { S with ws := ws, gl := gl, gz := gz }
  same : Same m m'
  mkd : ∀ k, Mkd m S.par k → Mkd m' S.par k
  tbm : TbM m S.par S.ph S.tb → TbM m' S.par S.ph S.tb
  ms : msM S' ≤ msM S
theorem Mstep.refl (S : CS) (m : Mp) : Mstep S m S m := ⟨⟨S.ws, S.gl, S.gz, rfl⟩, Same.refl m, fun _ h => h, fun h => h, Int.le_refl _⟩
theorem Mstep.trans {S S1 S2 : CS} {m m1 m2 : Mp} (h : Mstep S m S1 m1) (h' : Mstep S1 m1 S2 m2) : Mstep S m S2 m2 := by
  obtain ⟨ws, gl, gz, e⟩ := h.eq
  obtain ⟨ws', gl', gz', e'⟩ := h'.eq
  have a := h'.mkd; have b := h'.tbm
  have c := h'.ms
  rw [e] at a b
  refine ⟨⟨ws', gl', gz', by rw [e', e]⟩, h.same.trans h'.same, fun k hk => a k (h.mkd k hk), fun t => b (h.tbm t), Int.le_trans c h.ms⟩
section
variable {S : CS} {m : Mp} {R : Nat → Prop} {G : Gr.GS} {ex : Int} {X P : Int → Prop} {kx : Int} {kn : Nat} {Z : Int → Prop}
theorem mark_ms (h : Inv S m R G ex X P kx kn Z) (v : Int) (hv : v = 0 ∨ ∃ p, m v = some p ∧ R p.id) : msM (S.mark v) ≤ msM S := by
  have g := h.geo
  by_cases h0 : v = 0 ∨ S.ph ≠ 1
  · have : S.mark v = S := by unfold CS.mark; rw [if_pos h0]
    rw [this]; exact Int.le_refl _
  · have v0 : v ≠ 0 := fun e => h0 (.inl e)
    obtain ⟨p, hp, hR⟩ := hv.resolve_left v0
    obtain ⟨q, q1, q2, q3⟩ := g.now hp hR
    have en := h.now hp
    have eh := h.hd q1
    by_cases hk : q.hd.par = S.par
    · have : S.mark v = S := by unfold CS.mark; rw [if_neg h0]; simp only [en, eh]; rw [if_pos hk]
      rw [this]; exact Int.le_refl _
    · have gd := (g.rep.at_ _ q q1).good
      have p01 := h.mks.p01
      have kg : ({ q.hd with par := S.par, grey := true } : Hd).good := by unfold Hea.Hd.good at gd ⊢; simp only []; omega
      have e : S.mark v = { S with ws := shW S.ws p.way { q.hd with par := S.par, grey := true }, gl := Gy.putL S.gl S.gm p.way, gz := S.gz || decide (S.gm ≤ (S.gl.length : Int)) } := by
        unfold CS.mark; rw [if_neg h0]; simp only [en, eh]; rw [if_neg hk]; rfl
      rw [e]
      have r := g.rng q1
      have wl := g.wl
      have w := wht_set (ws := S.ws) kg (by omega) (by omega : p.way < S.ws.length) S.par
      have eh' : Ob.hdAt S.ws p.way = q.hd := eh
      rw [eh', if_pos hk, if_neg (by simp)] at w
      unfold msM
      simp only []
      have p0 := g.cf.p0
      have w' : (wht S.ws S.par : Int) = wht (shW S.ws p.way { q.hd with par := S.par, grey := true }) S.par + 1 := by omega
      rw [w', Int.mul_add, Int.mul_one]
      generalize 75 * (wht (shW S.ws p.way { q.hd with par := S.par, grey := true }) S.par : Int) = W
      unfold Gy.putL
      by_cases hl : (S.gl.length : Int) < S.gm
      · rw [if_pos hl, decide_eq_false (by omega), List.length_append]
        simp only [List.length_singleton, Bool.or_false]
        omega
      · rw [if_neg hl, decide_eq_true (by omega)]
        simp only [Bool.or_true, if_true]
        split <;> omega
theorem mark_step (h : Inv S m R G ex X P kx kn Z) (v : Int) (hv : v = 0 ∨ ∃ p, m v = some p ∧ R p.id) :
    ∃ m', Inv (S.mark v) m' R G ex X P kx kn Z ∧ Mstep S m (S.mark v) m' ∧ (S.ph = 1 → ∀ p, m v = some p → Mkd m' S.par p.id) := by
  obtain ⟨m', ws, gl, gz, e, i, s, d, k, t⟩ := mark_spec h v hv
  have ms := mark_ms h v hv
  exact ⟨m', by rw [e]; exact i, ⟨⟨ws, gl, gz, e⟩, s, k, t, ms⟩, d⟩
/-- All of a list are found. -/
theorem markL_spec : ∀ (L : List Int) (S : CS) (m : Mp), Inv S m R G ex X P kx kn Z → S.ph = 1 → (∀ x, x ∈ L → x = 0 ∨ ∃ p, m x = some p ∧ R p.id) →
    ∃ m', Inv (CS.markL L S) m' R G ex X P kx kn Z ∧ Mstep S m (CS.markL L S) m' ∧ ∀ x, x ∈ L → ∀ p, m x = some p → Mkd m' S.par p.id := by
  intro L
  induction L with
  | nil => intro S m h h1 hL; exact ⟨m, h, Mstep.refl S m, fun x hx => by cases hx⟩
  | cons a r ih =>
    intro S m h h1 hL
    obtain ⟨m1, i1, s1, d1⟩ := mark_step h a (hL a List.mem_cons_self)
    obtain ⟨ws, gl, gz, e⟩ := s1.eq
    obtain ⟨m2, i2, s2, d2⟩ := ih (S.mark a) m1 i1 (by rw [e]; exact h1) (fun x hx => by
      rcases hL x (List.mem_cons_of_mem _ hx) with e | ⟨p, hp, hR⟩
      · exact .inl e
      · obtain ⟨q, hq, _, _, _, _, _, _, e⟩ := s1.same.fwd x p hp
        exact .inr ⟨q, hq, by rw [e]; exact hR⟩)
    have par1 : (S.mark a).par = S.par := by rw [e]
    have k2 := s2.mkd
    rw [par1] at k2 d2
    refine ⟨m2, i2, s1.trans s2, fun x hx p hp => ?_⟩
    rcases List.mem_cons.1 hx with rfl | hx
    · exact k2 _ (d1 h1 p hp)
    · obtain ⟨q, hq, _, _, _, _, _, _, e⟩ := s1.same.fwd x p hp
      rw [← e]; exact d2 x hx q hq
/-- What an object refers to is found. -/
theorem markF_spec {a : Int} : ∀ (k n : Nat) (S : CS) (m : Mp) (p : OR), Inv S m R G ex X P a n Z → S.ph = 1 → m a = some p → R p.id → p.way = a → ((n + k : Nat) : Int) = p.hd.ptrs →
    ∃ m', Inv (CS.markF a k n S) m' R G ex X P 0 0 Z ∧ Mstep S m (CS.markF a k n S) m' := by
  intro k
  induction k with
  | zero =>
    intro n S m p h h1 ha hR hw hn
    exact ⟨m, ⟨h.geo, h.mn, h.sim, h.mks.shut ha (by omega)⟩, Mstep.refl S m⟩
  | succ k ih =>
    intro n S m p h h1 ha hR hw hn
    have rfn := h.mn.refs a p ha hw n (by omega)
    have ex := h.ref (n := n) ha (by omega) (by omega) rfn
    simp only [Int.toNat_natCast] at ex
    have nd := h.sim.node a p ha hR hw
    have dn := nd.refs n (by have := nd.ptrs; omega)
    have hv : p.f n = 0 ∨ ∃ q, m (p.f n) = some q ∧ R q.id := by
      rcases dn with ⟨e, _⟩ | ⟨_, h2, q, hq, e⟩
      · exact .inl e
      · exact .inr ⟨q, hq, by rw [e]; exact h2⟩
    obtain ⟨m1, i1, s1, d1⟩ := mark_step h (p.f n) hv
    obtain ⟨ws, gl, gz, e⟩ := s1.eq
    obtain ⟨p1, a1, a2, a3, a4, a5, a6, a7, a8⟩ := s1.same.fwd a p ha
    have f1 : p1.f n = p.f n := by unfold OR.f; rw [a7]
    have par1 : (S.mark (p.f n)).par = S.par := by rw [e]
    have i2 : Inv (S.mark (p.f n)) m1 R G _ X P a (n + 1) Z := ⟨i1.geo, i1.mn, i1.sim, i1.mks.next_ a1 (fun q hq => by
      rw [f1] at hq
      obtain ⟨q0, b1, _, _, _, _, _, _, b2⟩ := s1.same.back _ q hq
      rw [b2, par1]; exact d1 h1 q0 b1)⟩
    obtain ⟨m2, i3, s2⟩ := ih (n + 1) (S.mark (p.f n)) m1 p1 i2 (by rw [e]; exact h1) a1 (by rw [a8]; exact hR) (by rw [a6]; exact hw) (by rw [a3]; omega)
    unfold CS.markF
    rw [ex]
    exact ⟨m2, i3, s1.trans s2⟩
theorem mthrough_spec {a : Int} {p : OR} {P' : Int → Prop} (h : Inv S m R G ex X P 0 0 Z) (h1 : S.ph = 1) (ha : m a = some p) (hw : p.way = a) (hP : ∀ z, z ≠ a → P z → P' z) :
    ∃ m', Inv (S.mthrough a).2 m' R G ex X P' 0 0 Z ∧ Mstep S m (S.mthrough a).2 m' ∧ 1 ≤ (S.mthrough a).1 ∧ (S.mthrough a).1 ≤ 66 := by
  have g := h.geo
  by_cases hk : p.hd.grey = true
  · have gd := (g.rep.at_ a p ha).good
    have n2 := (g.rep.at_ a p ha).n2
    have kg : ({ p.hd with grey := false } : Hd).good := gd
    obtain ⟨r1, r2⟩ := g.rep.hd ha kg rfl
    have hR := (h.mks.grey a p ha hw hk).2.1
    have i1 : Inv (S.setHd a { p.hd with grey := false }) (upM m a { p with hd := { p.hd with grey := false } }) R G ex X P' a 0 Z :=
      ⟨g.like (Like.up ha rfl rfl rfl rfl rfl) r1 r2, h.mn.keep (KeepM.up ha rfl rfl rfl fun _ _ => rfl), h.sim.keep (KeepS.up ha rfl rfl rfl rfl rfl), h.mks.ungrey h1 g.nz ha hP⟩
    unfold Hea.Hd.good at gd
    have T := markF_spec (R := R) (a := a) p.hd.ptrs.toNat 0 (S.setHd a { p.hd with grey := false }) _ _ i1 h1 (upM_self _ _ _) hR hw (by show ((0 + p.hd.ptrs.toNat : Nat) : Int) = p.hd.ptrs; omega)
    rw [show ((0 : Nat) : Int) = 0 from rfl] at T
    obtain ⟨m2, i2, s2⟩ := T
    have e : S.mthrough a = (p.n, CS.markF a p.hd.ptrs.toNat 0 (S.setHd a { p.hd with grey := false })) := by
      unfold CS.mthrough
      have ew := h.words ha
      simp only [h.hd ha] at ew ⊢
      rw [if_neg (by rw [hk]; simp), ew]
    have mk : ∀ {i}, Mkd m S.par i → Mkd (upM m a { p with hd := { p.hd with grey := false } }) S.par i := by
      rintro i ⟨d, q, h1, h2, h3, h4⟩
      by_cases e : d = a
      · subst e; rw [ha] at h1; cases h1; exact ⟨_, _, upM_self _ _ _, h2, h3, h4⟩
      · exact ⟨d, q, by rw [upM_ne _ _ e]; exact h1, h2, h3, h4⟩
    have s1 : Mstep S m (S.setHd a { p.hd with grey := false }) (upM m a { p with hd := { p.hd with grey := false } }) := by
      refine ⟨⟨_, S.gl, S.gz, rfl⟩, Same.up ha _ rfl rfl rfl rfl, fun _ hk => mk hk, fun t h1 x hx q hq => ?_, ?_⟩
      · rcases up_get hq with ⟨e1, e2⟩ | ⟨e1, hq⟩
        · rw [e2]; exact mk (t h1 x hx p (e1 ▸ ha))
        · exact mk (t h1 x hx q hq)
      · have r := g.rng ha
        have wl := g.wl
        have w := wht_set (ws := S.ws) kg (by omega) (by omega : a < S.ws.length) S.par
        have eh' : Ob.hdAt S.ws a = p.hd := h.hd ha
        rw [eh'] at w
        unfold msM
        simp only [CS.setHd]
        have w : wht (shW S.ws a { p.hd with grey := false }) S.par + (if p.hd.par ≠ S.par then 1 else 0) = wht S.ws S.par + (if p.hd.par ≠ S.par then 1 else 0) := w
        have : wht (shW S.ws a { p.hd with grey := false }) S.par = wht S.ws S.par := by omega
        rw [this]; exact Int.le_refl _
    rw [e]
    exact ⟨m2, i2, s1.trans s2, by show 1 ≤ p.n; omega, by show p.n ≤ 66; omega⟩
  · have e : S.mthrough a = (1, S) := by
      unfold CS.mthrough
      simp only [h.hd ha]
      rw [if_pos (by simpa using hk)]
    rw [e]
    exact ⟨m, ⟨h.geo, h.mn, h.sim, h.mks.see (fun d q hq hw' hg hp => .inr (hP d (fun e => by rw [e, ha] at hq; cases hq; exact hk hg) hp))⟩, Mstep.refl S m, by simp, by simp⟩
end
end Go.Proofs.YtihmkkjmnbehbaaGreat.Wh
