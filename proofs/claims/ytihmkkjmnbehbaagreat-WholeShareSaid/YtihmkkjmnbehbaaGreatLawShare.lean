/- WholeShare as a contract. Condition: what is taken in reads as lists. -/
import Derived.Test.YtihmkkjmnbehbaaGreatMg43
import Derived.Deep.LoopGhost
/- Share as a contract. Condition: what is taken in reads as lists. -/
set_option linter.unusedVariables false
set_option linter.unusedSimpArgs false
namespace Go.Proofs.YtihmkkjmnbehbaaGreat.Wh
open Go.RowKit Go.Proofs.YtihmkkjmnbehbaaGreat.W Go.Proofs.YtihmkkjmnbehbaaGreat.Sm
set_option maxRecDepth 20000 in
set_option maxHeartbeats 8000000 in
theorem Share_calls (a b d e : Int) (ha : U8 a) (hb0 : U8 b) (hd : U8 d) (he : U8 e) (w : World) {v : Value} {idle : List Int} (hv : SL w (fun i => i < w.heap.size) .u8 v idle) (hu : ∀ x ∈ idle, U8 x) : Calls Tryz.prog 4 #[.int .u8 a, .int .u8 b, .int .u8 d, .int .u8 e, v] w fun e' w' => e' = .returned (.bool true) ∧ Below w.heap.size w w' := by
  have hm : CFmay ({ cfg a b d e with h := 6, l := 4 } : CF) := by
    have hm0 := cfg_may ha hb0 hd he
    obtain ⟨k1, k2, k3⟩ := card_ok (a := a) (c := d) ha
    unfold U8 at ha hb0 hd he
    refine ⟨⟨?_, ?_, ?_, ?_, ?_, ?_, ?_, ?_, ?_, ?_, ?_, ?_, ?_, ?_, ?_, ?_, ?_, ?_, ?_, ?_, ?_, ?_, ?_⟩, ?_, ?_, ?_⟩ <;> simp only [cfg] <;> first | exact k1 | exact k2 | exact k3 | omega
  have hn0 : ∀ C : CF, ({ cfg a b d e with h := 6, l := 4 } : CF) = C → 12 ≤ C.mia ∧ 24 ≤ C.n ∧ C.h = 6 ∧ C.l = 4 := by
    rintro _ rfl
    unfold U8 at ha hb0 hd he
    (repeat' constructor) <;> (try simp only [cfg]) <;> omega
  have HM := Lib.hid hm
  have HF := Lib.hid hn0
  obtain ⟨A, cp, rfl, hlen, hcl⟩ := hv
  have HCL := Lib.hid hcl
  have HU := Lib.hid hu
  clear hcl hu
  clear hm hn0
  go_enter Tryz.func4, Tryz.ntmps4
  go_wp2_with fail
  refine (config_l (a := a) (b := b) (d := d) (e := e) ha hb0 hd he (Sep.nil w)).mono ?_
  rintro e1 w1 ⟨rfl, h1⟩
  have H1 := Lib.hid h1
  clear h1
  go_wp2_with fail
  refine (hNew_g (c := ({ cfg a b d e with h := 6, l := 4 } : CF)) HM.out (H1.out.alloc _)).mono ?_
  rintro e2 w2 ⟨hb, kc, rfl, h2⟩
  obtain ⟨c, hc⟩ : ∃ c : CF, ({ cfg a b d e with h := 6, l := 4 } : CF) = c := ⟨_, rfl⟩
  have hF := HF.out c hc
  have hm := HM.out
  rw [hc] at h2 hm
  replace h2 : SepO w (fun _ => False) w2 [Hst hb kc c (⟨[], [0, 0, 0, 0, 0, 0], 4⟩ : Gr.GS) 0] := by
    have e : (⟨[], [0, 0, 0, 0, 0, 0], 4⟩ : Gr.GS) = Gr.gnew c.h c.l := by rw [← hc]; rfl
    rw [e]; exact h2
  have H2 := Lib.hid h2
  have HOK := Lib.hid hm.ok
  clear h2 H1 HM HF hm
  go_wp2_with fail
  refine (wakes_l H2.out).mono ?_
  rintro e3 w3 ⟨rfl, h3⟩
  have H3 := Lib.hid h3
  clear h3 H2
  go_wp2_with fail
  obtain ⟨f1, f2, f3, f4⟩ := hF
  have fE := run_fE
  refine wp_loop_rounds 4 ?_
  rw [rounds_succ]
  go_wp2_with fail
  refine (doF_g (c := c) (kc := kc) (u := 0) 0 2 0 0 (wf5 (by omega) (by omega) (by omega) (by omega) (by omega)) (by omega) (by omega) (by omega) (by decide) H3.out 0 rfl).mono ?_
  rintro e4 w4 ⟨rfl, h4⟩
  replace h4 : SepO w (fun _ => False) w4 [Hst hb kc c (⟨[⟨[0, 0], []⟩], [1, 0, 0, 0, 0, 0], 4⟩ : Gr.GS) 4] := h4
  have H4 := Lib.hid h4
  simp only [erA]
  clear h4 H3
  go_wp2_with fail
  rw [rounds_succ]
  go_wp2_with fail
  refine (doF_g (c := c) (kc := kc) (u := 4) 1 2 0 0 (wf5 (by omega) (by omega) (by omega) (by omega) (by omega)) (by omega) (by omega) (by omega) (by decide) H4.out 0 rfl).mono ?_
  rintro e5 w5 ⟨rfl, h5⟩
  replace h5 : SepO w (fun _ => False) w5 [Hst hb kc c (⟨[⟨[0, 0], []⟩, ⟨[0, 0], []⟩], [1, 2, 0, 0, 0, 0], 4⟩ : Gr.GS) 8] := h5
  have H5 := Lib.hid h5
  simp only [erA]
  clear h5 H4
  go_wp2_with fail
  rw [rounds_succ]
  go_wp2_with fail
  refine (doF_g (c := c) (kc := kc) (u := 8) 2 2 0 0 (wf5 (by omega) (by omega) (by omega) (by omega) (by omega)) (by omega) (by omega) (by omega) (by decide) H5.out 0 rfl).mono ?_
  rintro e6 w6 ⟨rfl, h6⟩
  replace h6 : SepO w (fun _ => False) w6 [Hst hb kc c (⟨[⟨[0, 0], []⟩, ⟨[0, 0], []⟩, ⟨[0, 0], []⟩], [1, 2, 3, 0, 0, 0], 4⟩ : Gr.GS) 12] := h6
  have H6 := Lib.hid h6
  simp only [erA]
  clear h6 H5
  go_wp2_with fail
  rw [rounds_succ]
  go_wp2_with fail
  have H7 := Lib.hid (hst_gg (i := 0) H6.out rfl)
  clear H6
  refine (do_g (c := c) (kc := kc) (G := (⟨[⟨[0, 0], []⟩, ⟨[0, 0], []⟩, ⟨[0, 0], []⟩], [1, 2, 3, 0, 0, 0], 4⟩ : Gr.GS)) 3 0 0 2 0 (wf5 (by omega) (by omega) (by omega) (by omega) (by omega)) (by decide) H7.out 0 rfl).mono ?_
  rintro e8 w8 ⟨rfl, h8⟩
  replace h8 : SepO w (fun _ => False) w8 [Hgg hb kc c (⟨[⟨[3, 0], []⟩, ⟨[0, 0], []⟩, ⟨[0, 0], []⟩], [1, 2, 3, 0, 0, 0], 4⟩ : Gr.GS)] := h8
  rw [show (Gr.gdo (⟨[⟨[0, 0], []⟩, ⟨[0, 0], []⟩, ⟨[0, 0], []⟩], [1, 2, 3, 0, 0, 0], 4⟩ : Gr.GS) ⟨3, 0, 0, 2, 0⟩).1 = (⟨0, false, 0, 0⟩ : Gr.GA) from rfl]
  simp only [toAn]
  have H8 := Lib.hid h8
  clear h8 H7
  go_wp2_with fail
  refine (do_g (c := c) (kc := kc) (G := (⟨[⟨[3, 0], []⟩, ⟨[0, 0], []⟩, ⟨[0, 0], []⟩], [1, 2, 3, 0, 0, 0], 4⟩ : Gr.GS)) 3 1 0 2 0 (wf5 (by omega) (by omega) (by omega) (by omega) (by omega)) (by decide) H8.out 0 rfl).mono ?_
  rintro e9 w9 ⟨rfl, h9⟩
  replace h9 : SepO w (fun _ => False) w9 [Hgg hb kc c (⟨[⟨[3, 0], []⟩, ⟨[3, 0], []⟩, ⟨[0, 0], []⟩], [1, 2, 3, 0, 0, 0], 4⟩ : Gr.GS)] := h9
  rw [show (Gr.gdo (⟨[⟨[3, 0], []⟩, ⟨[0, 0], []⟩, ⟨[0, 0], []⟩], [1, 2, 3, 0, 0, 0], 4⟩ : Gr.GS) ⟨3, 1, 0, 2, 0⟩).1 = (⟨0, false, 0, 0⟩ : Gr.GA) from rfl]
  simp only [toAn]
  have H9 := Lib.hid h9
  clear h9 H8
  go_wp2_with fail
  refine (do_g (c := c) (kc := kc) (G := (⟨[⟨[3, 0], []⟩, ⟨[3, 0], []⟩, ⟨[0, 0], []⟩], [1, 2, 3, 0, 0, 0], 4⟩ : Gr.GS)) 3 0 1 1 0 (wf5 (by omega) (by omega) (by omega) (by omega) (by omega)) (by decide) H9.out 0 rfl).mono ?_
  rintro e10 w10 ⟨rfl, h10⟩
  replace h10 : SepO w (fun _ => False) w10 [Hgg hb kc c (⟨[⟨[3, 2], []⟩, ⟨[3, 0], []⟩, ⟨[0, 0], []⟩], [1, 2, 3, 0, 0, 0], 4⟩ : Gr.GS)] := h10
  rw [show (Gr.gdo (⟨[⟨[3, 0], []⟩, ⟨[3, 0], []⟩, ⟨[0, 0], []⟩], [1, 2, 3, 0, 0, 0], 4⟩ : Gr.GS) ⟨3, 0, 1, 1, 0⟩).1 = (⟨0, false, 0, 0⟩ : Gr.GA) from rfl]
  simp only [toAn]
  have H10 := Lib.hid h10
  clear h10 H9
  go_wp2_with fail
  refine (do_g (c := c) (kc := kc) (G := (⟨[⟨[3, 2], []⟩, ⟨[3, 0], []⟩, ⟨[0, 0], []⟩], [1, 2, 3, 0, 0, 0], 4⟩ : Gr.GS)) 6 2 0 0 0 (wf5 (by omega) (by omega) (by omega) (by omega) (by omega)) (by decide) H10.out 0 rfl).mono ?_
  rintro e11 w11 ⟨rfl, h11⟩
  replace h11 : SepO w (fun _ => False) w11 [Hgg hb kc c (⟨[⟨[3, 2], []⟩, ⟨[3, 0], []⟩, ⟨[0, 0], []⟩], [1, 2, 0, 0, 0, 0], 4⟩ : Gr.GS)] := h11
  rw [show (Gr.gdo (⟨[⟨[3, 2], []⟩, ⟨[3, 0], []⟩, ⟨[0, 0], []⟩], [1, 2, 3, 0, 0, 0], 4⟩ : Gr.GS) ⟨6, 2, 0, 0, 0⟩).1 = (⟨0, false, 0, 0⟩ : Gr.GA) from rfl]
  simp only [toAn]
  have H11 := Lib.hid h11
  clear h11 H10
  go_wp2_with fail
  go_loopg [15, 16, 17, 18, 19] 60 (fun gk i s16 s17 s18 s19 wr => ∃ (j a3 a4 a5 : Nat), j + gk = 60 ∧ i = .int .i64 j ∧ Sep w wr [Hgg hb kc c (⟨[⟨[3, 2], []⟩, ⟨[3, 0], []⟩, ⟨[0, 0], []⟩], [1, 2, 0, a3, a4, a5], 4⟩ : Gr.GS)])
  case atStart => exact ⟨0, 0, 0, 0, by omega, rfl, H11.out⟩
  case round =>
    clear H11
    obtain ⟨j, a3, a4, a5, hj, rfl, h⟩ := hrel
    have HJ := Lib.hid hj
    have hj60 : j ≤ 60 := by omega
    clear hj
    by_cases hlt : j < idle.length ∧ j < 60
    · obtain ⟨hlt, hlt2⟩ := hlt
      have e60 : decide ((j : Int) < 60) = true := by simp; omega
      obtain ⟨bs, os, rfl, hbl, hbl2, hcell⟩ := HCL.out (by omega)
      have c0 := (World.cell?_of_block (h.keep0.block bs hbl2 (fun h => h))).trans (hcell j hlt)
      have hx : U8 (idle[j]?.getD 0) := by
        rw [List.getElem?_eq_getElem hlt]; exact HU.out _ (List.getElem_mem _)
      generalize idle[j]?.getD 0 = x at c0 hx
      have hbw : bs < wr.heap.size := by have := h.size; omega
      unfold U8 at hx
      obtain ⟨hx0, hx1⟩ := hx
      have H0 := Lib.hid h
      clear h hcell
      go_wp2_with fail
      refine (doI_g (c := c) (G := (⟨[⟨[3, 2], []⟩, ⟨[3, 0], []⟩, ⟨[0, 0], []⟩], [1, 2, 0, a3, a4, a5], 4⟩ : Gr.GS)) (kc := kc) 12 (x % 2) 0 0 0 (wf5 (by omega) (by omega) (by omega) (by omega) (by omega)) (.inr rfl) H0.out 0 rfl).mono ?_
      rintro e20 w20 ⟨⟨an1, rfl⟩, h20⟩
      have H20 := Lib.hid h20
      clear h20 H0
      go_wp2_with fail
      refine (doI_g (c := c) (G := (⟨[⟨[3, 2], []⟩, ⟨[3, 0], []⟩, ⟨[0, 0], []⟩], [1, 2, 0, a3, a4, a5], 4⟩ : Gr.GS)) (kc := kc) 11 (x / 2 % 2) (x / 8) 0 0 (wf5 (by omega) (by omega) (by omega) (by omega) (by omega)) (.inl rfl) H20.out 0 rfl).mono ?_
      rintro e21 w21 ⟨⟨an2, rfl⟩, h21⟩
      have H21 := Lib.hid h21
      clear h21 H20
      go_wp2_with fail
      refine (do_g (c := c) (kc := kc) (G := (⟨[⟨[3, 2], []⟩, ⟨[3, 0], []⟩, ⟨[0, 0], []⟩], [1, 2, 0, a3, a4, a5], 4⟩ : Gr.GS)) 2 3 0 0 0 (wf5 (by omega) (by omega) (by omega) (by omega) (by omega)) (by decide) H21.out 0 rfl).mono ?_
      rintro e22 w22 ⟨rfl, h22⟩
      replace h22 : SepO w (fun _ => False) w22 [Hgg hb kc c (⟨[⟨[3, 2], []⟩, ⟨[3, 0], []⟩, ⟨[0, 0], []⟩], [1, 2, 0, 3, a4, a5], 4⟩ : Gr.GS)] := h22
      rw [show (Gr.gdo (⟨[⟨[3, 2], []⟩, ⟨[3, 0], []⟩, ⟨[0, 0], []⟩], [1, 2, 0, a3, a4, a5], 4⟩ : Gr.GS) ⟨2, 3, 0, 0, 0⟩).1 = (⟨0, false, 0, 0⟩ : Gr.GA) from rfl]
      simp only [toAn]
      have H22 := Lib.hid h22
      clear h22 H21
      go_wp2_with fail
      refine (do_g (c := c) (kc := kc) (G := (⟨[⟨[3, 2], []⟩, ⟨[3, 0], []⟩, ⟨[0, 0], []⟩], [1, 2, 0, 3, a4, a5], 4⟩ : Gr.GS)) 2 4 1 0 0 (wf5 (by omega) (by omega) (by omega) (by omega) (by omega)) (by decide) H22.out 0 rfl).mono ?_
      rintro e23 w23 ⟨rfl, h23⟩
      replace h23 : SepO w (fun _ => False) w23 [Hgg hb kc c (⟨[⟨[3, 2], []⟩, ⟨[3, 0], []⟩, ⟨[0, 0], []⟩], [1, 2, 0, 3, 3, a5], 4⟩ : Gr.GS)] := h23
      rw [show (Gr.gdo (⟨[⟨[3, 2], []⟩, ⟨[3, 0], []⟩, ⟨[0, 0], []⟩], [1, 2, 0, 3, a4, a5], 4⟩ : Gr.GS) ⟨2, 4, 1, 0, 0⟩).1 = (⟨0, false, 0, 0⟩ : Gr.GA) from rfl]
      simp only [toAn]
      have H23 := Lib.hid h23
      clear h23 H22
      go_wp2_with fail
      refine (do_g (c := c) (kc := kc) (G := (⟨[⟨[3, 2], []⟩, ⟨[3, 0], []⟩, ⟨[0, 0], []⟩], [1, 2, 0, 3, 3, a5], 4⟩ : Gr.GS)) 2 5 0 1 0 (wf5 (by omega) (by omega) (by omega) (by omega) (by omega)) (by decide) H23.out 0 rfl).mono ?_
      rintro e24 w24 ⟨rfl, h24⟩
      replace h24 : SepO w (fun _ => False) w24 [Hgg hb kc c (⟨[⟨[3, 2], []⟩, ⟨[3, 0], []⟩, ⟨[0, 0], []⟩], [1, 2, 0, 3, 3, 2], 4⟩ : Gr.GS)] := h24
      rw [show (Gr.gdo (⟨[⟨[3, 2], []⟩, ⟨[3, 0], []⟩, ⟨[0, 0], []⟩], [1, 2, 0, 3, 3, a5], 4⟩ : Gr.GS) ⟨2, 5, 0, 1, 0⟩).1 = (⟨0, false, 0, 0⟩ : Gr.GA) from rfl]
      simp only [toAn]
      have H24 := Lib.hid h24
      clear h24 H23
      go_wp2_with fail
      refine (do_g (c := c) (kc := kc) (G := (⟨[⟨[3, 2], []⟩, ⟨[3, 0], []⟩, ⟨[0, 0], []⟩], [1, 2, 0, 3, 3, 2], 4⟩ : Gr.GS)) 8 3 4 0 0 (wf5 (by omega) (by omega) (by omega) (by omega) (by omega)) (by decide) H24.out 0 rfl).mono ?_
      rintro e25 w25 ⟨rfl, h25⟩
      replace h25 : SepO w (fun _ => False) w25 [Hgg hb kc c (⟨[⟨[3, 2], []⟩, ⟨[3, 0], []⟩, ⟨[0, 0], []⟩], [1, 2, 0, 3, 3, 2], 4⟩ : Gr.GS)] := h25
      rw [show (Gr.gdo (⟨[⟨[3, 2], []⟩, ⟨[3, 0], []⟩, ⟨[0, 0], []⟩], [1, 2, 0, 3, 3, 2], 4⟩ : Gr.GS) ⟨8, 3, 4, 0, 0⟩).1 = (⟨0, true, 0, 0⟩ : Gr.GA) from rfl]
      simp only [toAn]
      have h25 := h25.new_blk 33 #[i6 0, .bool true, i6 0, .int .u64 0]
      obtain ⟨z25, hz25⟩ : ∃ z, w25.heap.size = z := ⟨_, rfl⟩
      rw [hz25] at h25
      have H25 := Lib.hid h25
      clear h25 H24
      go_wp2_with fail
      refine (do_g (c := c) (kc := kc) (G := (⟨[⟨[3, 2], []⟩, ⟨[3, 0], []⟩, ⟨[0, 0], []⟩], [1, 2, 0, 3, 3, 2], 4⟩ : Gr.GS)) 8 5 1 0 0 (wf5 (by omega) (by omega) (by omega) (by omega) (by omega)) (by decide) H25.out 0 rfl).mono ?_
      rintro e26 w26 ⟨rfl, h26⟩
      replace h26 : SepO w (fun _ => False) w26 [Hgg hb kc c (⟨[⟨[3, 2], []⟩, ⟨[3, 0], []⟩, ⟨[0, 0], []⟩], [1, 2, 0, 3, 3, 2], 4⟩ : Gr.GS), blkP z25 33 #[i6 0, .bool true, i6 0, .int .u64 0]] := h26
      rw [show (Gr.gdo (⟨[⟨[3, 2], []⟩, ⟨[3, 0], []⟩, ⟨[0, 0], []⟩], [1, 2, 0, 3, 3, 2], 4⟩ : Gr.GS) ⟨8, 5, 1, 0, 0⟩).1 = (⟨0, true, 0, 0⟩ : Gr.GA) from rfl]
      simp only [toAn]
      have h26 := h26.new_blk 33 #[i6 0, .bool true, i6 0, .int .u64 0]
      obtain ⟨z26, hz26⟩ : ∃ z, w26.heap.size = z := ⟨_, rfl⟩
      rw [hz26] at h26
      have H26 := Lib.hid h26
      clear h26 H25
      go_wp2_with fail
      refine (do_g (c := c) (kc := kc) (G := (⟨[⟨[3, 2], []⟩, ⟨[3, 0], []⟩, ⟨[0, 0], []⟩], [1, 2, 0, 3, 3, 2], 4⟩ : Gr.GS)) 8 3 5 0 0 (wf5 (by omega) (by omega) (by omega) (by omega) (by omega)) (by decide) H26.out 0 rfl).mono ?_
      rintro e27 w27 ⟨rfl, h27⟩
      replace h27 : SepO w (fun _ => False) w27 [Hgg hb kc c (⟨[⟨[3, 2], []⟩, ⟨[3, 0], []⟩, ⟨[0, 0], []⟩], [1, 2, 0, 3, 3, 2], 4⟩ : Gr.GS), blkP z25 33 #[i6 0, .bool true, i6 0, .int .u64 0], blkP z26 33 #[i6 0, .bool true, i6 0, .int .u64 0]] := h27
      rw [show (Gr.gdo (⟨[⟨[3, 2], []⟩, ⟨[3, 0], []⟩, ⟨[0, 0], []⟩], [1, 2, 0, 3, 3, 2], 4⟩ : Gr.GS) ⟨8, 3, 5, 0, 0⟩).1 = (⟨0, false, 0, 0⟩ : Gr.GA) from rfl]
      simp only [toAn]
      have h27 := h27.new_blk 33 #[i6 0, .bool false, i6 0, .int .u64 0]
      obtain ⟨z27, hz27⟩ : ∃ z, w27.heap.size = z := ⟨_, rfl⟩
      rw [hz27] at h27
      have b25 := h27.blk (g := z25) (t := 33) (cs := #[i6 0, .bool true, i6 0, .int .u64 0]) 1 rfl
      have b26 := h27.blk (g := z26) (t := 33) (cs := #[i6 0, .bool true, i6 0, .int .u64 0]) 2 rfl
      have b27 := h27.blk (g := z27) (t := 33) (cs := #[i6 0, .bool false, i6 0, .int .u64 0]) 3 rfl
      have x0 := b25.cell 0
      have x1 := b25.cell 1
      have y0 := b26.cell 0
      have y1 := b26.cell 1
      have z0 := b27.cell 0
      have z1 := b27.cell 1
      simp at x0 x1 y0 y1 z0 z1
      have H27 := Lib.hid (h27.first (l := [_]) (m := [_, _, _]))
      clear h27 H26 b25 b26 b27
      go_wp2_with fail
      go_roundg (gk - 1)
      case measure => have := HJ.out; omega
      case rel => exact ⟨j + 1, 3, 3, 2, by have := HJ.out; omega, by go_num, H27.out⟩
    · have H0 := Lib.hid h
      clear h
      rcases (by omega : ¬ j < idle.length ∨ (j < idle.length ∧ ¬ j < 60)) with hx | ⟨hx, hx'⟩
      all_goals
        clear hlt
        go_wp2_with fail
        go_ret
        exact ⟨rfl, H0.out.below⟩
end Go.Proofs.YtihmkkjmnbehbaaGreat.Wh
