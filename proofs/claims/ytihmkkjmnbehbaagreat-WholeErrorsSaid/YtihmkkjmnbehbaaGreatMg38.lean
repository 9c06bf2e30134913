/- Texts of the whole heap, joined: WiC WiD. No condition beside those that each lemma names. -/
import Derived.Test.YtihmkkjmnbehbaaGreatMg37
import Derived.Deep.DeepCutAuto
import Derived.Deep.CutBlock
/- Bits of the major cycle, many of them: the walks. Condition: the heap is as it should be. -/
set_option linter.unusedVariables false
set_option linter.unusedSimpArgs false
namespace Go.Proofs.YtihmkkjmnbehbaaGreat.Wh
open Go.RowKit Go.Proofs.YtihmkkjmnbehbaaGreat.W Go.Proofs.YtihmkkjmnbehbaaGreat.Sm
section
variable {W w : World} {oo : Nat → Prop} {k : CK} {S : CS} {l : List Pr} {F : FuncId} {args : Array Value}
set_option maxHeartbeats 4000000 in
theorem majStep_in (hO : Ok S) (h : SepO W oo w (cparts k S ++ l)) : Calls Tryz.prog 85 #[pt k.c] w fun e w' => e = .returned (.tuple #[.int .i64 S.majStep.1.1, .bool S.majStep.1.2]) ∧ SepO W oo w' (cparts k S.majStep.2 ++ l) := by
  obtain ⟨_, ⟨_, c20, _⟩, hbl, _⟩ := c_at h
  have hph : S.ph = 0 ∨ S.ph = 1 ∨ S.ph = 2 := by obtain ⟨m, R, G, h⟩ := hO; exact h.inv.mks.ph3
  have H := Lib.hid h
  obtain ⟨R, hR⟩ : ∃ R, S.majStep = R := ⟨_, rfl⟩
  rw [hR]
  rcases hph with h0 | h0 | h0
  · obtain rfl : R = ((0, false), S) := by rw [← hR]; unfold CS.majStep; rw [if_pos h0]
    rw [h0] at c20
    clear h hR hO h0
    go_enter Tryz.func85, Tryz.ntmps85
    go_wp2_with fail
    go_ret2
    exact ⟨rfl, H.out⟩
  · obtain rfl : R = ((S.markS.1, true), S.markS.2) := by rw [← hR]; unfold CS.majStep; rw [if_neg (by omega), if_pos h0]
    rw [h0] at c20
    have hc := mark_in hO h
    have HC := Lib.hid hc
    clear h hR hO h0 hc
    go_enter Tryz.func85, Tryz.ntmps85
    go_wp2_with fail
    refine HC.out.mono ?_
    rintro e w1 ⟨rfl, h1⟩
    have H1 := Lib.hid h1
    clear h1 H HC
    go_wp2_with fail
    go_ret2
    exact ⟨rfl, H1.out⟩
  · obtain rfl : R = S.sweep := by rw [← hR]; unfold CS.majStep; rw [if_neg (by omega), if_neg (by omega)]
    rw [h0] at c20
    have hc := sweep_in h
    have HC := Lib.hid hc
    clear h hR hO h0 hc
    go_enter Tryz.func85, Tryz.ntmps85
    go_wp2_with fail
    refine HC.out.mono ?_
    rintro e w1 ⟨rfl, h1⟩
    have H1 := Lib.hid h1
    clear h1 H HC
    go_wp2_with fail
    go_ret2
    exact ⟨rfl, H1.out⟩
set_option maxHeartbeats 4000000 in
theorem majRun_in (work : Int) (hw : 0 ≤ work ∧ work ≤ 70000000) (hO : Ok S) (h : SepO W oo w (cparts k S ++ l)) : Calls Tryz.prog 80 #[pt k.c, .int .i64 work] w fun e w' => e = .returned (.int .i64 (S.majRun work).1) ∧ SepO W oo w' (cparts k (S.majRun work).2 ++ l) := by
  have hbl := (c_at h).2.2.1
  have H := Lib.hid h
  obtain ⟨R, hR⟩ : ∃ R, S.majRun work = R := ⟨_, rfl⟩
  rw [hR]
  have hRe : CS.runG CS.majStep work work.toNat 0 S = R := hR
  obtain ⟨hw0, hw1⟩ := hw
  have HR := Lib.hid hRe
  clear h hR hRe
  go_enter Tryz.func80, Tryz.ntmps80
  go_wp2_with fail
  go_loopg [5, 6, 7] work.toNat (fun gk n5 s6 s7 wr => ∃ (d : Int) (S' : CS), n5 = .int .i64 d ∧ 0 ≤ d ∧ d ≤ work + 1100000 ∧ work - d ≤ gk ∧ Ok S' ∧ CS.runG CS.majStep work gk d S' = R ∧ SepO W oo wr (cparts k S' ++ l))
  case atStart => exact ⟨0, S, rfl, by omega, by omega, by omega, hO, HR.out, H.out⟩
  case round =>
    clear H HR hO
    obtain ⟨d, S', rfl, hd0, hd1, hgk, hO, ht, h⟩ := hrel
    by_cases hlt : d < work
    · obtain ⟨g, hg⟩ : ∃ g, gk = g + 1 := ⟨gk - 1, by omega⟩
      rw [hg] at ht hgk
      unfold CS.runG at ht
      rw [if_pos hlt] at ht
      have hst := majStep_in hO h
      obtain ⟨o1, o2, o3, o4⟩ := hO.majStep
      have hps := majStep_pos S'
      obtain ⟨⟨⟨n, more⟩, T⟩, hT⟩ : ∃ T, S'.majStep = T := ⟨_, rfl⟩
      rw [hT] at hst ht o1 o3 o4 hps
      simp only [] at hst ht o1 o3 o4 hps
      have HST := Lib.hid hst
      have HT := Lib.hid ht
      have HG := Lib.hid hg
      have HO := Lib.hid o1
      have hbl2 := (c_at h).2.2.1
      replace hbl2 : k.c < wr.heap.size := hbl2
      have hwd : wrap64 (d + n) = d + n := by unfold wrap64; omega
      cases more
      · have hRe : (d + n, T) = R := by have := HT.out; simpa using this
        subst hRe
        clear h hst ht hT hO hg hps o1
        go_wp2_with fail
        refine HST.out.mono ?_
        rintro e w2 ⟨rfl, h2⟩
        have H2 := Lib.hid h2
        clear h2 HST
        go_wp2_with fail
        go_ret
        exact ⟨rfl, H2.out⟩
      · have hps := hps rfl
        clear h hst ht hT hO hg o1
        go_wp2_with fail
        refine HST.out.mono ?_
        rintro e w2 ⟨rfl, h2⟩
        have H2 := Lib.hid h2
        clear h2 HST
        go_wp2_with fail
        go_roundg g
        case measure => have := HG.out; omega
        case rel => exact ⟨d + n, T, by first | rfl | rw [hwd], by omega, by omega, by omega, HO.out, by have := HT.out; simpa using this, H2.out⟩
    · have hRe : R = (d, S') := by
        rw [← ht]
        cases gk with
        | zero => rfl
        | succ g => unfold CS.runG; rw [if_neg hlt]
      subst hRe
      have H1 := Lib.hid h
      clear h ht hO
      go_wp2_with fail
      go_ret
      exact ⟨rfl, H1.out⟩
end
end Go.Proofs.YtihmkkjmnbehbaaGreat.Wh
/- The tax of a heap: the walk. Condition: the heap is as it should be. -/
set_option linter.unusedVariables false
set_option linter.unusedSimpArgs false
namespace Go.Proofs.YtihmkkjmnbehbaaGreat.Wh
open Go.RowKit Go.Proofs.YtihmkkjmnbehbaaGreat.W Go.Proofs.YtihmkkjmnbehbaaGreat.Sm
/-- A way, as a value. -/
abbrev CF.cells (c : CF) : Array Value := #[i6 c.h, i6 c.n, i6 c.p, i6 c.w, i6 c.c, i6 c.b, i6 c.s, i6 c.t, i6 c.l, i6 c.mi, i6 c.ma, i6 c.mia, i6 c.maa]
/-- The heap's own block. -/
abbrev hbP (hb : Nat) (k : CK) : Pr := blkP hb 82 #[pt k.c]
theorem quant_b (w t : Int) : 0 ≤ quant w t ∧ quant w t ≤ 67108864 := by
  have a : 0 ≤ mm w 0 1048576 ∧ mm w 0 1048576 ≤ 1048576 := by unfold mm; (repeat' split) <;> omega
  have b : 0 ≤ mm t 0 64 ∧ mm t 0 64 ≤ 64 := by unfold mm; (repeat' split) <;> omega
  unfold quant
  refine ⟨Int.mul_nonneg a.1 b.1, ?_⟩
  have := Int.mul_le_mul a.2 b.2 b.1 (by omega)
  omega
section
variable {W w : World} {oo : Nat → Prop} {k : CK} {S : CS} {l L : List Pr} {F : FuncId} {args : Array Value} {hb : Nat}
theorem pMinor_l (c : CF) (u : Int) (h : SepO W oo w L) : Calls Tryz.prog 106 #[.agg c.cells, .int .i64 u] w fun e w' => e = .returned (.bool (decide (c.mia ≤ u))) ∧ SepO W oo w' L := by
  have H := Lib.hid h
  clear h
  go_enter Tryz.func106, Tryz.ntmps106
  go_wp2_with fail
  go_ret
  exact ⟨rfl, H.out.alloc _⟩
theorem pMajor_l (c : CF) (u : Int) (h : SepO W oo w L) : Calls Tryz.prog 107 #[.agg c.cells, .int .i64 u] w fun e w' => e = .returned (.bool (decide (u ≤ c.maa))) ∧ SepO W oo w' L := by
  have H := Lib.hid h
  clear h
  go_enter Tryz.func107, Tryz.ntmps107
  go_wp2_with fail
  go_ret
  exact ⟨rfl, H.out.alloc _⟩
theorem quant_l (x t : Int) (h : SepO W oo w L) : Calls Tryz.prog 109 #[.int .i64 x, .int .i64 t] w fun e w' => e = .returned (.int .i64 (quant x t)) ∧ SepO W oo w' L := by
  have hg : ∀ a b : Int, 0 ≤ a → a ≤ 1048576 → 0 ≤ b → b ≤ 64 → wrap64 (a * b) = a * b := fun a b a0 a1 b0 b1 => by
    have h0 := Int.mul_nonneg a0 b0
    have h1 := Int.mul_le_mul a1 b1 b0 (by omega)
    unfold wrap64; omega
  unfold quant mm
  have HG := Lib.hid hg
  have H := Lib.hid h
  clear h hg
  go_enter Tryz.func109, Tryz.ntmps109
  go_wp2_with fail
  all_goals
    go_ret
    refine ⟨?_, H.out⟩
    first
      | rfl
      | (rw [HG.out _ _ (by omega) (by omega) (by omega) (by omega)]; rfl)
      | simp [wrap64]
theorem c_conf (h : SepO W oo w (cparts k S ++ l)) : w.cell? ⟨k.c, 0, none⟩ = some (i6 S.c.h) ∧ w.cell? ⟨k.c, 1, none⟩ = some (i6 S.c.n) ∧ w.cell? ⟨k.c, 2, none⟩ = some (i6 S.c.p) ∧ w.cell? ⟨k.c, 3, none⟩ = some (i6 S.c.w) ∧ w.cell? ⟨k.c, 4, none⟩ = some (i6 S.c.c) ∧ w.cell? ⟨k.c, 5, none⟩ = some (i6 S.c.b) ∧ w.cell? ⟨k.c, 6, none⟩ = some (i6 S.c.s) ∧ w.cell? ⟨k.c, 7, none⟩ = some (i6 S.c.t) ∧ w.cell? ⟨k.c, 8, none⟩ = some (i6 S.c.l) ∧ w.cell? ⟨k.c, 9, none⟩ = some (i6 S.c.mi) ∧ w.cell? ⟨k.c, 10, none⟩ = some (i6 S.c.ma) ∧ w.cell? ⟨k.c, 11, none⟩ = some (i6 S.c.mia) ∧ w.cell? ⟨k.c, 12, none⟩ = some (i6 S.c.maa) := by
  have hb := c_blk h
  have e : ∀ j, w.cell? ⟨k.c, j, none⟩ = (ccells k S)[j]? := hb.cell
  exact ⟨e 0, e 1, e 2, e 3, e 4, e 5, e 6, e 7, e 8, e 9, e 10, e 11, e 12⟩
theorem c21_of {b : Bool} (hm : S.mv = b) (h : SepO W oo w (cparts k S ++ l)) : w.cell? ⟨k.c, 21, none⟩ = some (.bool b) := by subst hm; exact (c_at h).2.1.2.2.1
theorem c20_of {b : Int} (hm : S.ph = b) (h : SepO W oo w (cparts k S ++ l)) : w.cell? ⟨k.c, 20, none⟩ = some (i6 b) := by subst hm; exact (c_at h).2.1.2.1
theorem oFree_in (h : SepO W oo w (cparts k S ++ l)) : Calls Tryz.prog 108 #[pt k.o] w fun e w' => e = .returned (.int .i64 (Ma.freeN S.o.l : Int)) ∧ SepO W oo w' (cparts k S ++ l) := Ma.Free_sep h 3 rfl
theorem h_at (h : SepO W oo w (cparts k S ++ (hbP hb k :: l))) : w.cell? ⟨hb, 0, none⟩ = some (pt k.c) ∧ hb < w.heap.size := by
  have b := h.blk (g := hb) (t := 82) (cs := #[pt k.c]) 8 rfl
  exact ⟨b.cell 0, b.lt⟩
theorem Ok.majStart {S : CS} (h : Ok S) : Ok S.majStart.2 ∧ S.majStart.2.c = S.c := by
  obtain ⟨m, R, G, h⟩ := h
  obtain ⟨m', h1, h2, _⟩ := h.majStart
  exact ⟨⟨m', R, G, h1⟩, h2.c⟩
theorem Ok.minRun {S : CS} (h : Ok S) (x : Int) : Ok (S.minRun x).2 ∧ (S.minRun x).2.c = S.c := by
  obtain ⟨m, R, G, h⟩ := h
  obtain ⟨m', R', h1, h2⟩ := h.minRun x
  exact ⟨⟨m', R', G, h1⟩, h2⟩
theorem Ok.majRun {S : CS} (h : Ok S) (x : Int) : Ok (S.majRun x).2 ∧ (S.majRun x).2.c = S.c := by
  obtain ⟨m, R, G, h⟩ := h
  obtain ⟨m', R', h1, h2⟩ := h.majRun x
  exact ⟨⟨m', R', G, h1⟩, h2⟩
def taxA (S : CS) : CS := if S.mv = false ∧ S.c.mia ≤ S.y.used then S.minStart.2 else S
def taxB (S : CS) : CS := if S.ph = 0 ∧ (Ma.freeN S.o.l : Int) ≤ S.c.maa then S.majStart.2 else S
theorem tax_eq (S : CS) (x : Int) : S.tax x = (((taxB (taxA S)).minRun (quant x (taxB (taxA S)).c.mi)).2.majRun (quant x (((taxB (taxA S)).minRun (quant x (taxB (taxA S)).c.mi)).2.c.ma))).2 := rfl
theorem Ok.taxA {S : CS} (h : Ok S) : Ok (taxA S) := by unfold Wh.taxA; split; exact h.minStart.1; exact h
theorem Ok.taxB {S : CS} (h : Ok S) : Ok (taxB S) := by unfold Wh.taxB; split; exact h.majStart.1; exact h
set_option maxRecDepth 20000 in
set_option maxHeartbeats 4000000 in
theorem tax_in (x : Int) (hx : I64 x) (hO : Ok S) (h : SepO W oo w (cparts k S ++ (hbP hb k :: l))) : Calls Tryz.prog 70 #[pt hb, .int .i64 x] w fun e w' => e = .returned (.tuple #[]) ∧ ∃ A m, SepO W oo w' (cparts (k.rw A m) (S.tax x) ++ (hbP hb k :: l)) := by
  have hcell := h_at h
  have H := Lib.hid h
  rw [tax_eq]
  obtain ⟨S1, hS1⟩ : ∃ S1, taxA S = S1 := ⟨_, rfl⟩
  have hO1 : Ok S1 := hS1 ▸ hO.taxA
  obtain ⟨S2, hS2⟩ : ∃ S2, taxB S1 = S2 := ⟨_, rfl⟩
  have hO2 : Ok S2 := hS2 ▸ hO1.taxB
  rw [hS1, hS2]
  have HO := Lib.hid hO
  have HO1 := Lib.hid hO1
  have HO2 := Lib.hid hO2
  have HS1 := Lib.hid hS1
  have HS2 := Lib.hid hS2
  obtain ⟨hcell, hbl⟩ := hcell
  obtain ⟨q3, hq3⟩ : ∃ q, quant x S2.c.mi = q := ⟨_, rfl⟩
  obtain ⟨S3, hS3⟩ : ∃ S3, (S2.minRun q3).2 = S3 := ⟨_, rfl⟩
  obtain ⟨q4, hq4⟩ : ∃ q, quant x S3.c.ma = q := ⟨_, rfl⟩
  obtain ⟨S4, hS4⟩ : ∃ S4, (S3.majRun q4).2 = S4 := ⟨_, rfl⟩
  rw [hq3, hS3, hq4, hS4]
  have hb3 : 0 ≤ q3 ∧ q3 ≤ 67108864 := hq3 ▸ quant_b _ _
  have hb4 : 0 ≤ q4 ∧ q4 ≤ 67108864 := hq4 ▸ quant_b _ _
  have hO3 : Ok S3 := hS3 ▸ (hO2.minRun q3).1
  have HO3 := Lib.hid hO3
  have HQ3 := Lib.hid hq3
  have HQ4 := Lib.hid hq4
  have HS3 := Lib.hid hS3
  have HS4 := Lib.hid hS4
  clear h hO hO1 hO2 hS1 hS2 hO3 hq3 hq4 hS3 hS4
  go_enter Tryz.func70, Tryz.ntmps70
  obtain ⟨bb, hbb⟩ : ∃ bb, decide (S.mv = false ∧ S.c.mia ≤ S.y.used) = bb := ⟨_, rfl⟩
  have HBB := Lib.hid hbb
  clear hbb
  go_upto_region 1 with fail
  go_cut [25] (fun v wx => v = .bool bb ∧ SepO W oo wx (cparts k S ++ (hbP hb k :: l)))
  case first =>
    as_aux_lemma =>
    clear HO1 HO2 HO3 HS1 HS2 HS3 HS4 HQ3 HQ4 hbl hcell HO
    have c14 : w.cell? ⟨k.c, 14, none⟩ = some (pt k.y) := (c_at H.out).1.2.1
    have cbl : k.c < w.heap.size := (c_at H.out).2.2.1
    have g0 : w.cell? ⟨k.c, 0, none⟩ = some (i6 S.c.h) ∧ w.cell? ⟨k.c, 1, none⟩ = some (i6 S.c.n) ∧ w.cell? ⟨k.c, 2, none⟩ = some (i6 S.c.p) ∧ w.cell? ⟨k.c, 3, none⟩ = some (i6 S.c.w) ∧ w.cell? ⟨k.c, 4, none⟩ = some (i6 S.c.c) ∧ w.cell? ⟨k.c, 5, none⟩ = some (i6 S.c.b) ∧ w.cell? ⟨k.c, 6, none⟩ = some (i6 S.c.s) ∧ w.cell? ⟨k.c, 7, none⟩ = some (i6 S.c.t) ∧ w.cell? ⟨k.c, 8, none⟩ = some (i6 S.c.l) ∧ w.cell? ⟨k.c, 9, none⟩ = some (i6 S.c.mi) ∧ w.cell? ⟨k.c, 10, none⟩ = some (i6 S.c.ma) ∧ w.cell? ⟨k.c, 11, none⟩ = some (i6 S.c.mia) ∧ w.cell? ⟨k.c, 12, none⟩ = some (i6 S.c.maa) := c_conf H.out
    obtain ⟨u, hu⟩ : ∃ u, S.y.used = u := ⟨_, rfl⟩
    have hc1 : ∀ w', SepO W oo w' (cparts k S ++ (hbP hb k :: l)) → Calls Tryz.prog 90 #[pt k.y] w' fun e w'' => e = .returned (.int .i64 u) ∧ SepO W oo w'' (cparts k S ++ (hbP hb k :: l)) := fun w' h' => by rw [← hu]; exact yUsed_in h'
    cases hmv : S.mv
    · have c21 : w.cell? ⟨k.c, 21, none⟩ = some (.bool false) := c21_of hmv H.out
      by_cases ht : S.c.mia ≤ u
      · obtain rfl : bb = true := by rw [← HBB.out]; simp [hmv, hu, ht]
        have hc2 : ∀ w', SepO W oo w' (cparts k S ++ (hbP hb k :: l)) → Calls Tryz.prog 106 #[.agg S.c.cells, .int .i64 u] w' fun e w'' => e = .returned (.bool true) ∧ SepO W oo w'' (cparts k S ++ (hbP hb k :: l)) := fun w' h' => by
          have := pMinor_l S.c u h'
          rwa [decide_eq_true ht] at this
        have HC1 := Lib.hid hc1
        have HC2 := Lib.hid hc2
        have HMV := Lib.hid hmv
        clear hc1 hc2 HBB hu hmv ht
        obtain ⟨g0, g1, g2, g3, g4, g5, g6, g7, g8, g9, g10, g11, g12⟩ := g0
        go_region_held3 (fun w' => w'.cell? ⟨k.c, 14, none⟩ = some (pt k.y) ∧ w'.cell? ⟨k.c, 21, none⟩ = some (.bool false) ∧ w'.cell? ⟨k.c, 0, none⟩ = some (i6 S.c.h) ∧ w'.cell? ⟨k.c, 1, none⟩ = some (i6 S.c.n) ∧ w'.cell? ⟨k.c, 2, none⟩ = some (i6 S.c.p) ∧ w'.cell? ⟨k.c, 3, none⟩ = some (i6 S.c.w) ∧ w'.cell? ⟨k.c, 4, none⟩ = some (i6 S.c.c) ∧ w'.cell? ⟨k.c, 5, none⟩ = some (i6 S.c.b) ∧ w'.cell? ⟨k.c, 6, none⟩ = some (i6 S.c.s) ∧ w'.cell? ⟨k.c, 7, none⟩ = some (i6 S.c.t) ∧ w'.cell? ⟨k.c, 8, none⟩ = some (i6 S.c.l) ∧ w'.cell? ⟨k.c, 9, none⟩ = some (i6 S.c.mi) ∧ w'.cell? ⟨k.c, 10, none⟩ = some (i6 S.c.ma) ∧ w'.cell? ⟨k.c, 11, none⟩ = some (i6 S.c.mia) ∧ w'.cell? ⟨k.c, 12, none⟩ = some (i6 S.c.maa)) (first | exact ⟨c14, c21, g0, g1, g2, g3, g4, g5, g6, g7, g8, g9, g10, g11, g12⟩ | exact ⟨d14, d21, f0⟩ | exact ⟨e14, e21, k0⟩ | go_keep) ((first | (go_at_call 90; (with_reducible refine (HC1.out _ ?hx).mono ?_); (case hx => exact H.out.drewN _); rintro e w1 ⟨rfl, h1⟩; have d14 : w1.cell? ⟨k.c, 14, none⟩ = some (pt k.y) := (c_at h1).1.2.1; have d21 : w1.cell? ⟨k.c, 21, none⟩ = some (.bool false) := c21_of HMV.out h1; have f0 : w1.cell? ⟨k.c, 0, none⟩ = some (i6 S.c.h) ∧ w1.cell? ⟨k.c, 1, none⟩ = some (i6 S.c.n) ∧ w1.cell? ⟨k.c, 2, none⟩ = some (i6 S.c.p) ∧ w1.cell? ⟨k.c, 3, none⟩ = some (i6 S.c.w) ∧ w1.cell? ⟨k.c, 4, none⟩ = some (i6 S.c.c) ∧ w1.cell? ⟨k.c, 5, none⟩ = some (i6 S.c.b) ∧ w1.cell? ⟨k.c, 6, none⟩ = some (i6 S.c.s) ∧ w1.cell? ⟨k.c, 7, none⟩ = some (i6 S.c.t) ∧ w1.cell? ⟨k.c, 8, none⟩ = some (i6 S.c.l) ∧ w1.cell? ⟨k.c, 9, none⟩ = some (i6 S.c.mi) ∧ w1.cell? ⟨k.c, 10, none⟩ = some (i6 S.c.ma) ∧ w1.cell? ⟨k.c, 11, none⟩ = some (i6 S.c.mia) ∧ w1.cell? ⟨k.c, 12, none⟩ = some (i6 S.c.maa) := c_conf h1) | (go_at_call 106; (with_reducible refine (HC2.out _ ?hx).mono ?_); (case hx => first | exact h1 | exact h1.drewN _); rintro e w2 ⟨rfl, h2⟩; have e14 : w2.cell? ⟨k.c, 14, none⟩ = some (pt k.y) := (c_at h2).1.2.1; have e21 : w2.cell? ⟨k.c, 21, none⟩ = some (.bool false) := c21_of HMV.out h2; have k0 : w2.cell? ⟨k.c, 0, none⟩ = some (i6 S.c.h) ∧ w2.cell? ⟨k.c, 1, none⟩ = some (i6 S.c.n) ∧ w2.cell? ⟨k.c, 2, none⟩ = some (i6 S.c.p) ∧ w2.cell? ⟨k.c, 3, none⟩ = some (i6 S.c.w) ∧ w2.cell? ⟨k.c, 4, none⟩ = some (i6 S.c.c) ∧ w2.cell? ⟨k.c, 5, none⟩ = some (i6 S.c.b) ∧ w2.cell? ⟨k.c, 6, none⟩ = some (i6 S.c.s) ∧ w2.cell? ⟨k.c, 7, none⟩ = some (i6 S.c.t) ∧ w2.cell? ⟨k.c, 8, none⟩ = some (i6 S.c.l) ∧ w2.cell? ⟨k.c, 9, none⟩ = some (i6 S.c.mi) ∧ w2.cell? ⟨k.c, 10, none⟩ = some (i6 S.c.ma) ∧ w2.cell? ⟨k.c, 11, none⟩ = some (i6 S.c.mia) ∧ w2.cell? ⟨k.c, 12, none⟩ = some (i6 S.c.maa) := c_conf h2)))
        have H2 := Lib.hid h2
        clear h1 h2 HC1 HC2 d14 d21 f0 e14 e21 k0 c14 c21 g0 g1 g2 g3 g4 g5 g6 g7 g8 g9 g10 g11 g12 cbl H
        go_wp2_with fail
        go_meet
        exact ⟨rfl, H2.out⟩

      · obtain rfl : bb = false := by rw [← HBB.out]; simp [hmv, hu, ht]
        have hc2 : ∀ w', SepO W oo w' (cparts k S ++ (hbP hb k :: l)) → Calls Tryz.prog 106 #[.agg S.c.cells, .int .i64 u] w' fun e w'' => e = .returned (.bool false) ∧ SepO W oo w'' (cparts k S ++ (hbP hb k :: l)) := fun w' h' => by
          have := pMinor_l S.c u h'
          rwa [decide_eq_false ht] at this
        have HC1 := Lib.hid hc1
        have HC2 := Lib.hid hc2
        have HMV := Lib.hid hmv
        clear hc1 hc2 HBB hu hmv ht
        obtain ⟨g0, g1, g2, g3, g4, g5, g6, g7, g8, g9, g10, g11, g12⟩ := g0
        go_region_held3 (fun w' => w'.cell? ⟨k.c, 14, none⟩ = some (pt k.y) ∧ w'.cell? ⟨k.c, 21, none⟩ = some (.bool false) ∧ w'.cell? ⟨k.c, 0, none⟩ = some (i6 S.c.h) ∧ w'.cell? ⟨k.c, 1, none⟩ = some (i6 S.c.n) ∧ w'.cell? ⟨k.c, 2, none⟩ = some (i6 S.c.p) ∧ w'.cell? ⟨k.c, 3, none⟩ = some (i6 S.c.w) ∧ w'.cell? ⟨k.c, 4, none⟩ = some (i6 S.c.c) ∧ w'.cell? ⟨k.c, 5, none⟩ = some (i6 S.c.b) ∧ w'.cell? ⟨k.c, 6, none⟩ = some (i6 S.c.s) ∧ w'.cell? ⟨k.c, 7, none⟩ = some (i6 S.c.t) ∧ w'.cell? ⟨k.c, 8, none⟩ = some (i6 S.c.l) ∧ w'.cell? ⟨k.c, 9, none⟩ = some (i6 S.c.mi) ∧ w'.cell? ⟨k.c, 10, none⟩ = some (i6 S.c.ma) ∧ w'.cell? ⟨k.c, 11, none⟩ = some (i6 S.c.mia) ∧ w'.cell? ⟨k.c, 12, none⟩ = some (i6 S.c.maa)) (first | exact ⟨c14, c21, g0, g1, g2, g3, g4, g5, g6, g7, g8, g9, g10, g11, g12⟩ | exact ⟨d14, d21, f0⟩ | exact ⟨e14, e21, k0⟩ | go_keep) ((first | (go_at_call 90; (with_reducible refine (HC1.out _ ?hx).mono ?_); (case hx => exact H.out.drewN _); rintro e w1 ⟨rfl, h1⟩; have d14 : w1.cell? ⟨k.c, 14, none⟩ = some (pt k.y) := (c_at h1).1.2.1; have d21 : w1.cell? ⟨k.c, 21, none⟩ = some (.bool false) := c21_of HMV.out h1; have f0 : w1.cell? ⟨k.c, 0, none⟩ = some (i6 S.c.h) ∧ w1.cell? ⟨k.c, 1, none⟩ = some (i6 S.c.n) ∧ w1.cell? ⟨k.c, 2, none⟩ = some (i6 S.c.p) ∧ w1.cell? ⟨k.c, 3, none⟩ = some (i6 S.c.w) ∧ w1.cell? ⟨k.c, 4, none⟩ = some (i6 S.c.c) ∧ w1.cell? ⟨k.c, 5, none⟩ = some (i6 S.c.b) ∧ w1.cell? ⟨k.c, 6, none⟩ = some (i6 S.c.s) ∧ w1.cell? ⟨k.c, 7, none⟩ = some (i6 S.c.t) ∧ w1.cell? ⟨k.c, 8, none⟩ = some (i6 S.c.l) ∧ w1.cell? ⟨k.c, 9, none⟩ = some (i6 S.c.mi) ∧ w1.cell? ⟨k.c, 10, none⟩ = some (i6 S.c.ma) ∧ w1.cell? ⟨k.c, 11, none⟩ = some (i6 S.c.mia) ∧ w1.cell? ⟨k.c, 12, none⟩ = some (i6 S.c.maa) := c_conf h1) | (go_at_call 106; (with_reducible refine (HC2.out _ ?hx).mono ?_); (case hx => first | exact h1 | exact h1.drewN _); rintro e w2 ⟨rfl, h2⟩; have e14 : w2.cell? ⟨k.c, 14, none⟩ = some (pt k.y) := (c_at h2).1.2.1; have e21 : w2.cell? ⟨k.c, 21, none⟩ = some (.bool false) := c21_of HMV.out h2; have k0 : w2.cell? ⟨k.c, 0, none⟩ = some (i6 S.c.h) ∧ w2.cell? ⟨k.c, 1, none⟩ = some (i6 S.c.n) ∧ w2.cell? ⟨k.c, 2, none⟩ = some (i6 S.c.p) ∧ w2.cell? ⟨k.c, 3, none⟩ = some (i6 S.c.w) ∧ w2.cell? ⟨k.c, 4, none⟩ = some (i6 S.c.c) ∧ w2.cell? ⟨k.c, 5, none⟩ = some (i6 S.c.b) ∧ w2.cell? ⟨k.c, 6, none⟩ = some (i6 S.c.s) ∧ w2.cell? ⟨k.c, 7, none⟩ = some (i6 S.c.t) ∧ w2.cell? ⟨k.c, 8, none⟩ = some (i6 S.c.l) ∧ w2.cell? ⟨k.c, 9, none⟩ = some (i6 S.c.mi) ∧ w2.cell? ⟨k.c, 10, none⟩ = some (i6 S.c.ma) ∧ w2.cell? ⟨k.c, 11, none⟩ = some (i6 S.c.mia) ∧ w2.cell? ⟨k.c, 12, none⟩ = some (i6 S.c.maa) := c_conf h2)))
        have H2 := Lib.hid h2
        clear h1 h2 HC1 HC2 d14 d21 f0 e14 e21 k0 c14 c21 g0 g1 g2 g3 g4 g5 g6 g7 g8 g9 g10 g11 g12 cbl H
        go_wp2_with fail
        go_meet
        exact ⟨rfl, H2.out⟩

    · have c21 : w.cell? ⟨k.c, 21, none⟩ = some (.bool true) := c21_of hmv H.out
      obtain rfl : bb = false := by rw [← HBB.out]; simp [hmv]

      have H2 := Lib.hid H.out
      clear hmv hu hc1 HBB g0
      go_quiet (fail)
      go_wp2_with fail
      go_meet
      exact ⟨rfl, by first | exact H2.out | exact H2.out.drewN _ | exact H2.out.drew⟩
  case rest =>
  obtain ⟨rfl, h1⟩ := hcut
  have hst : bb = true → S1 = S.minStart.2 := fun hb => by
    rw [← HBB.out] at hb
    rw [← HS1.out]; unfold taxA; rw [if_pos (by simpa using hb)]
  have hsf : bb = false → S1 = S := fun hb => by
    rw [← HBB.out] at hb
    rw [← HS1.out]; unfold taxA; rw [if_neg (by simpa using hb)]
  have HT := Lib.hid hst
  have HF := Lib.hid hsf
  have HC := Lib.hid h1
  clear hst hsf h1 H HBB
  go_upto_if 25 with fail
  go_cut [] (fun wx => ∃ A m, SepO W oo wx (cparts (k.rw A m) S1 ++ (hbP hb k :: l)))
  case first =>
    as_aux_lemma =>
    clear HS1 HO1 HO2 HO3 HS2 HS3 HS4 HQ3 HQ4
    cases bb
    · go_wp2_with fail
      go_meet
      exact ⟨k.A, k.n, by rw [HF.out (by trivial)]; exact HC.out⟩
    · go_wp2_with fail
      refine (Start_in HO.out HC.out).mono ?_
      rintro e w3 ⟨rfl, A, m, h3⟩
      have H3 := Lib.hid h3
      clear h3 HC
      go_wp2_with fail
      go_meet
      exact ⟨A, m, by rw [HT.out (by trivial)]; exact H3.out⟩
  case rest =>
  clear HT HF HS1 HC HO
  obtain ⟨A1, m1, h1⟩ := hcut
  have H1 := Lib.hid h1
  clear h1
  obtain ⟨bb, hbb⟩ : ∃ bb, decide (S1.ph = 0 ∧ (Ma.freeN S1.o.l : Int) ≤ S1.c.maa) = bb := ⟨_, rfl⟩
  have HBB := Lib.hid hbb
  clear hbb
  go_upto_region 3 with fail
  go_cut [44] (fun v wx => v = .bool bb ∧ SepO W oo wx (cparts (k.rw A1 m1) S1 ++ (hbP hb k :: l)))
  case first =>
    as_aux_lemma =>
    clear HO1 HO2 HO3 HS2 HS3 HS4 HQ3 HQ4 hbl hcell
    have c14 : wc.cell? ⟨k.c, 15, none⟩ = some (pt k.o) := (c_at (k := k.rw A1 m1) H1.out).1.2.2.1
    have cbl : k.c < wc.heap.size := (c_at (k := k.rw A1 m1) H1.out).2.2.1
    have g0 : wc.cell? ⟨k.c, 0, none⟩ = some (i6 S1.c.h) ∧ wc.cell? ⟨k.c, 1, none⟩ = some (i6 S1.c.n) ∧ wc.cell? ⟨k.c, 2, none⟩ = some (i6 S1.c.p) ∧ wc.cell? ⟨k.c, 3, none⟩ = some (i6 S1.c.w) ∧ wc.cell? ⟨k.c, 4, none⟩ = some (i6 S1.c.c) ∧ wc.cell? ⟨k.c, 5, none⟩ = some (i6 S1.c.b) ∧ wc.cell? ⟨k.c, 6, none⟩ = some (i6 S1.c.s) ∧ wc.cell? ⟨k.c, 7, none⟩ = some (i6 S1.c.t) ∧ wc.cell? ⟨k.c, 8, none⟩ = some (i6 S1.c.l) ∧ wc.cell? ⟨k.c, 9, none⟩ = some (i6 S1.c.mi) ∧ wc.cell? ⟨k.c, 10, none⟩ = some (i6 S1.c.ma) ∧ wc.cell? ⟨k.c, 11, none⟩ = some (i6 S1.c.mia) ∧ wc.cell? ⟨k.c, 12, none⟩ = some (i6 S1.c.maa) := c_conf (k := k.rw A1 m1) H1.out
    obtain ⟨u, hu⟩ : ∃ u, (Ma.freeN S1.o.l : Int) = u := ⟨_, rfl⟩
    have hc1 : ∀ w', SepO W oo w' (cparts (k.rw A1 m1) S1 ++ (hbP hb k :: l)) → Calls Tryz.prog 108 #[pt k.o] w' fun e w'' => e = .returned (.int .i64 u) ∧ SepO W oo w'' (cparts (k.rw A1 m1) S1 ++ (hbP hb k :: l)) := fun w' h' => by rw [← hu]; exact oFree_in (k := k.rw A1 m1) h'
    by_cases hmv : S1.ph = 0
    · have c21 : wc.cell? ⟨k.c, 20, none⟩ = some (i6 0) := c20_of (k := k.rw A1 m1) hmv H1.out
      by_cases ht : u ≤ S1.c.maa
      · obtain rfl : bb = true := by rw [← HBB.out]; simp [hmv, hu, ht]
        have hc2 : ∀ w', SepO W oo w' (cparts (k.rw A1 m1) S1 ++ (hbP hb k :: l)) → Calls Tryz.prog 107 #[.agg S1.c.cells, .int .i64 u] w' fun e w'' => e = .returned (.bool true) ∧ SepO W oo w'' (cparts (k.rw A1 m1) S1 ++ (hbP hb k :: l)) := fun w' h' => by
          have := pMajor_l S1.c u h'
          rwa [decide_eq_true ht] at this
        have HC1 := Lib.hid hc1
        have HC2 := Lib.hid hc2
        have HMV := Lib.hid hmv
        clear hc1 hc2 HBB hu hmv ht
        obtain ⟨g0, g1, g2, g3, g4, g5, g6, g7, g8, g9, g10, g11, g12⟩ := g0
        go_region_held3 (fun w' => w'.cell? ⟨k.c, 15, none⟩ = some (pt k.o) ∧ w'.cell? ⟨k.c, 20, none⟩ = some (i6 0) ∧ w'.cell? ⟨k.c, 0, none⟩ = some (i6 S1.c.h) ∧ w'.cell? ⟨k.c, 1, none⟩ = some (i6 S1.c.n) ∧ w'.cell? ⟨k.c, 2, none⟩ = some (i6 S1.c.p) ∧ w'.cell? ⟨k.c, 3, none⟩ = some (i6 S1.c.w) ∧ w'.cell? ⟨k.c, 4, none⟩ = some (i6 S1.c.c) ∧ w'.cell? ⟨k.c, 5, none⟩ = some (i6 S1.c.b) ∧ w'.cell? ⟨k.c, 6, none⟩ = some (i6 S1.c.s) ∧ w'.cell? ⟨k.c, 7, none⟩ = some (i6 S1.c.t) ∧ w'.cell? ⟨k.c, 8, none⟩ = some (i6 S1.c.l) ∧ w'.cell? ⟨k.c, 9, none⟩ = some (i6 S1.c.mi) ∧ w'.cell? ⟨k.c, 10, none⟩ = some (i6 S1.c.ma) ∧ w'.cell? ⟨k.c, 11, none⟩ = some (i6 S1.c.mia) ∧ w'.cell? ⟨k.c, 12, none⟩ = some (i6 S1.c.maa)) (first | exact ⟨c14, c21, g0, g1, g2, g3, g4, g5, g6, g7, g8, g9, g10, g11, g12⟩ | exact ⟨d14, d21, f0⟩ | exact ⟨e14, e21, k0⟩ | go_keep) ((first | (go_at_call 108; (with_reducible refine (HC1.out _ ?hx).mono ?_); (case hx => exact H1.out.drewN _); rintro e w1 ⟨rfl, h1⟩; have d14 : w1.cell? ⟨k.c, 15, none⟩ = some (pt k.o) := (c_at (k := k.rw A1 m1) h1).1.2.2.1; have d21 : w1.cell? ⟨k.c, 20, none⟩ = some (i6 0) := c20_of (k := k.rw A1 m1) HMV.out h1; have f0 : w1.cell? ⟨k.c, 0, none⟩ = some (i6 S1.c.h) ∧ w1.cell? ⟨k.c, 1, none⟩ = some (i6 S1.c.n) ∧ w1.cell? ⟨k.c, 2, none⟩ = some (i6 S1.c.p) ∧ w1.cell? ⟨k.c, 3, none⟩ = some (i6 S1.c.w) ∧ w1.cell? ⟨k.c, 4, none⟩ = some (i6 S1.c.c) ∧ w1.cell? ⟨k.c, 5, none⟩ = some (i6 S1.c.b) ∧ w1.cell? ⟨k.c, 6, none⟩ = some (i6 S1.c.s) ∧ w1.cell? ⟨k.c, 7, none⟩ = some (i6 S1.c.t) ∧ w1.cell? ⟨k.c, 8, none⟩ = some (i6 S1.c.l) ∧ w1.cell? ⟨k.c, 9, none⟩ = some (i6 S1.c.mi) ∧ w1.cell? ⟨k.c, 10, none⟩ = some (i6 S1.c.ma) ∧ w1.cell? ⟨k.c, 11, none⟩ = some (i6 S1.c.mia) ∧ w1.cell? ⟨k.c, 12, none⟩ = some (i6 S1.c.maa) := c_conf (k := k.rw A1 m1) h1) | (go_at_call 107; (with_reducible refine (HC2.out _ ?hx).mono ?_); (case hx => first | exact h1 | exact h1.drewN _); rintro e w2 ⟨rfl, h2⟩; have e14 : w2.cell? ⟨k.c, 15, none⟩ = some (pt k.o) := (c_at (k := k.rw A1 m1) h2).1.2.2.1; have e21 : w2.cell? ⟨k.c, 20, none⟩ = some (i6 0) := c20_of (k := k.rw A1 m1) HMV.out h2; have k0 : w2.cell? ⟨k.c, 0, none⟩ = some (i6 S1.c.h) ∧ w2.cell? ⟨k.c, 1, none⟩ = some (i6 S1.c.n) ∧ w2.cell? ⟨k.c, 2, none⟩ = some (i6 S1.c.p) ∧ w2.cell? ⟨k.c, 3, none⟩ = some (i6 S1.c.w) ∧ w2.cell? ⟨k.c, 4, none⟩ = some (i6 S1.c.c) ∧ w2.cell? ⟨k.c, 5, none⟩ = some (i6 S1.c.b) ∧ w2.cell? ⟨k.c, 6, none⟩ = some (i6 S1.c.s) ∧ w2.cell? ⟨k.c, 7, none⟩ = some (i6 S1.c.t) ∧ w2.cell? ⟨k.c, 8, none⟩ = some (i6 S1.c.l) ∧ w2.cell? ⟨k.c, 9, none⟩ = some (i6 S1.c.mi) ∧ w2.cell? ⟨k.c, 10, none⟩ = some (i6 S1.c.ma) ∧ w2.cell? ⟨k.c, 11, none⟩ = some (i6 S1.c.mia) ∧ w2.cell? ⟨k.c, 12, none⟩ = some (i6 S1.c.maa) := c_conf (k := k.rw A1 m1) h2)))
        have H2 := Lib.hid h2
        clear h1 h2 HC1 HC2 d14 d21 f0 e14 e21 k0 c14 c21 g0 g1 g2 g3 g4 g5 g6 g7 g8 g9 g10 g11 g12 cbl H1
        go_wp2_with fail
        go_meet
        exact ⟨rfl, H2.out⟩

      · obtain rfl : bb = false := by rw [← HBB.out]; simp [hmv, hu, ht]
        have hc2 : ∀ w', SepO W oo w' (cparts (k.rw A1 m1) S1 ++ (hbP hb k :: l)) → Calls Tryz.prog 107 #[.agg S1.c.cells, .int .i64 u] w' fun e w'' => e = .returned (.bool false) ∧ SepO W oo w'' (cparts (k.rw A1 m1) S1 ++ (hbP hb k :: l)) := fun w' h' => by
          have := pMajor_l S1.c u h'
          rwa [decide_eq_false ht] at this
        have HC1 := Lib.hid hc1
        have HC2 := Lib.hid hc2
        have HMV := Lib.hid hmv
        clear hc1 hc2 HBB hu hmv ht
        obtain ⟨g0, g1, g2, g3, g4, g5, g6, g7, g8, g9, g10, g11, g12⟩ := g0
        go_region_held3 (fun w' => w'.cell? ⟨k.c, 15, none⟩ = some (pt k.o) ∧ w'.cell? ⟨k.c, 20, none⟩ = some (i6 0) ∧ w'.cell? ⟨k.c, 0, none⟩ = some (i6 S1.c.h) ∧ w'.cell? ⟨k.c, 1, none⟩ = some (i6 S1.c.n) ∧ w'.cell? ⟨k.c, 2, none⟩ = some (i6 S1.c.p) ∧ w'.cell? ⟨k.c, 3, none⟩ = some (i6 S1.c.w) ∧ w'.cell? ⟨k.c, 4, none⟩ = some (i6 S1.c.c) ∧ w'.cell? ⟨k.c, 5, none⟩ = some (i6 S1.c.b) ∧ w'.cell? ⟨k.c, 6, none⟩ = some (i6 S1.c.s) ∧ w'.cell? ⟨k.c, 7, none⟩ = some (i6 S1.c.t) ∧ w'.cell? ⟨k.c, 8, none⟩ = some (i6 S1.c.l) ∧ w'.cell? ⟨k.c, 9, none⟩ = some (i6 S1.c.mi) ∧ w'.cell? ⟨k.c, 10, none⟩ = some (i6 S1.c.ma) ∧ w'.cell? ⟨k.c, 11, none⟩ = some (i6 S1.c.mia) ∧ w'.cell? ⟨k.c, 12, none⟩ = some (i6 S1.c.maa)) (first | exact ⟨c14, c21, g0, g1, g2, g3, g4, g5, g6, g7, g8, g9, g10, g11, g12⟩ | exact ⟨d14, d21, f0⟩ | exact ⟨e14, e21, k0⟩ | go_keep) ((first | (go_at_call 108; (with_reducible refine (HC1.out _ ?hx).mono ?_); (case hx => exact H1.out.drewN _); rintro e w1 ⟨rfl, h1⟩; have d14 : w1.cell? ⟨k.c, 15, none⟩ = some (pt k.o) := (c_at (k := k.rw A1 m1) h1).1.2.2.1; have d21 : w1.cell? ⟨k.c, 20, none⟩ = some (i6 0) := c20_of (k := k.rw A1 m1) HMV.out h1; have f0 : w1.cell? ⟨k.c, 0, none⟩ = some (i6 S1.c.h) ∧ w1.cell? ⟨k.c, 1, none⟩ = some (i6 S1.c.n) ∧ w1.cell? ⟨k.c, 2, none⟩ = some (i6 S1.c.p) ∧ w1.cell? ⟨k.c, 3, none⟩ = some (i6 S1.c.w) ∧ w1.cell? ⟨k.c, 4, none⟩ = some (i6 S1.c.c) ∧ w1.cell? ⟨k.c, 5, none⟩ = some (i6 S1.c.b) ∧ w1.cell? ⟨k.c, 6, none⟩ = some (i6 S1.c.s) ∧ w1.cell? ⟨k.c, 7, none⟩ = some (i6 S1.c.t) ∧ w1.cell? ⟨k.c, 8, none⟩ = some (i6 S1.c.l) ∧ w1.cell? ⟨k.c, 9, none⟩ = some (i6 S1.c.mi) ∧ w1.cell? ⟨k.c, 10, none⟩ = some (i6 S1.c.ma) ∧ w1.cell? ⟨k.c, 11, none⟩ = some (i6 S1.c.mia) ∧ w1.cell? ⟨k.c, 12, none⟩ = some (i6 S1.c.maa) := c_conf (k := k.rw A1 m1) h1) | (go_at_call 107; (with_reducible refine (HC2.out _ ?hx).mono ?_); (case hx => first | exact h1 | exact h1.drewN _); rintro e w2 ⟨rfl, h2⟩; have e14 : w2.cell? ⟨k.c, 15, none⟩ = some (pt k.o) := (c_at (k := k.rw A1 m1) h2).1.2.2.1; have e21 : w2.cell? ⟨k.c, 20, none⟩ = some (i6 0) := c20_of (k := k.rw A1 m1) HMV.out h2; have k0 : w2.cell? ⟨k.c, 0, none⟩ = some (i6 S1.c.h) ∧ w2.cell? ⟨k.c, 1, none⟩ = some (i6 S1.c.n) ∧ w2.cell? ⟨k.c, 2, none⟩ = some (i6 S1.c.p) ∧ w2.cell? ⟨k.c, 3, none⟩ = some (i6 S1.c.w) ∧ w2.cell? ⟨k.c, 4, none⟩ = some (i6 S1.c.c) ∧ w2.cell? ⟨k.c, 5, none⟩ = some (i6 S1.c.b) ∧ w2.cell? ⟨k.c, 6, none⟩ = some (i6 S1.c.s) ∧ w2.cell? ⟨k.c, 7, none⟩ = some (i6 S1.c.t) ∧ w2.cell? ⟨k.c, 8, none⟩ = some (i6 S1.c.l) ∧ w2.cell? ⟨k.c, 9, none⟩ = some (i6 S1.c.mi) ∧ w2.cell? ⟨k.c, 10, none⟩ = some (i6 S1.c.ma) ∧ w2.cell? ⟨k.c, 11, none⟩ = some (i6 S1.c.mia) ∧ w2.cell? ⟨k.c, 12, none⟩ = some (i6 S1.c.maa) := c_conf (k := k.rw A1 m1) h2)))
        have H2 := Lib.hid h2
        clear h1 h2 HC1 HC2 d14 d21 f0 e14 e21 k0 c14 c21 g0 g1 g2 g3 g4 g5 g6 g7 g8 g9 g10 g11 g12 cbl H1
        go_wp2_with fail
        go_meet
        exact ⟨rfl, H2.out⟩

    · have c21 : wc.cell? ⟨k.c, 20, none⟩ = some (i6 S1.ph) := c20_of (k := k.rw A1 m1) rfl H1.out
      obtain rfl : bb = false := by rw [← HBB.out]; simp [hmv]
      have hpe : (S1.ph == 0) = false := by simpa using hmv
      have H2 := Lib.hid H1.out
      clear hmv hu hc1 HBB g0
      go_quiet (fail)
      go_wp2_with fail
      go_meet
      exact ⟨rfl, by first | exact H2.out | exact H2.out.drewN _ | exact H2.out.drew⟩
  case rest =>
  obtain ⟨rfl, h1⟩ := hcut
  have hst : bb = true → S2 = S1.majStart.2 := fun hb => by
    rw [← HBB.out] at hb
    rw [← HS2.out]; unfold taxB; rw [if_pos (by simpa using hb)]
  have hsf : bb = false → S2 = S1 := fun hb => by
    rw [← HBB.out] at hb
    rw [← HS2.out]; unfold taxB; rw [if_neg (by simpa using hb)]
  have HT := Lib.hid hst
  have HF := Lib.hid hsf
  have HC := Lib.hid h1
  clear hst hsf h1 H1 HBB
  go_upto_if 44 with fail
  go_cut [] (fun wx => SepO W oo wx (cparts (k.rw A1 m1) S2 ++ (hbP hb k :: l)))
  case first =>
    as_aux_lemma =>
    clear HO2 HO3 HS2 HS3 HS4 HQ3 HQ4
    cases bb
    · go_wp2_with fail
      go_meet
      rw [HF.out (by trivial)]; exact HC.out
    · go_wp2_with fail
      refine (majStart_in (k := k.rw A1 m1) HO1.out HC.out).mono ?_
      rintro e w3 ⟨rfl, h3⟩
      have H3 := Lib.hid h3
      clear h3 HC
      go_wp2_with fail
      go_meet
      rw [HT.out (by trivial)]; exact H3.out
  case rest =>
  as_aux_lemma =>
  have g9 : wc.cell? ⟨k.c, 9, none⟩ = some (i6 S2.c.mi) := (c_conf hcut).2.2.2.2.2.2.2.2.2.1
  have cbl : k.c < wc.heap.size := (c_at hcut).2.2.1
  have H2 := Lib.hid hcut
  clear HT HF HS2 HC HO1 hcut
  go_wp2_with fail
  refine (quant_l x S2.c.mi H2.out).mono ?_
  rintro e w4 ⟨rfl, h4⟩
  rw [HQ3.out]
  have H4 := Lib.hid h4
  clear h4 H2 g9
  go_wp2_with fail
  refine (Run_in (k := k.rw A1 m1) q3 ⟨by omega, by omega⟩ HO2.out H4.out).mono ?_
  rintro e w5 ⟨rfl, A5, m5, h5⟩
  rw [HS3.out] at h5
  have h5 : SepO W oo w5 (cparts (k.rw A5 m5) S3 ++ (hbP hb k :: l)) := h5
  have g9 : w5.cell? ⟨k.c, 10, none⟩ = some (i6 S3.c.ma) := (c_conf h5).2.2.2.2.2.2.2.2.2.2.1
  have cbl : k.c < w5.heap.size := (c_at h5).2.2.1
  have H5 := Lib.hid h5
  clear h5 H4 HQ3 HS3
  go_wp2_with fail
  refine (quant_l x S3.c.ma H5.out).mono ?_
  rintro e w6 ⟨rfl, h6⟩
  rw [HQ4.out]
  have H6 := Lib.hid h6
  clear h6 H5 g9
  go_wp2_with fail
  refine (majRun_in (k := k.rw A5 m5) q4 ⟨by omega, by omega⟩ HO3.out H6.out).mono ?_
  rintro e w7 ⟨rfl, h7⟩
  rw [HS4.out] at h7
  have H7 := Lib.hid h7
  clear h7 H6 HQ4 HS4
  go_wp2_with fail
  go_end0
  exact ⟨rfl, A5, m5, H7.out⟩
end
end Go.Proofs.YtihmkkjmnbehbaaGreat.Wh
