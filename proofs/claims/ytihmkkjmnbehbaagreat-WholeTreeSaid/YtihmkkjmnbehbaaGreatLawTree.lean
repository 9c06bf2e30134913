/- WholeTree as a contract. Condition: what is taken in reads as lists. -/
import Derived.Test.YtihmkkjmnbehbaaGreatMg43
import Derived.Deep.LoopGhost
/- A leaf at the start. No condition. -/
set_option linter.unusedVariables false
set_option linter.unusedSimpArgs false
namespace Go.Proofs.YtihmkkjmnbehbaaGreat.Wh
open Go.RowKit Go.Proofs.YtihmkkjmnbehbaaGreat.W Go.Proofs.YtihmkkjmnbehbaaGreat.Sm
section
variable {W w : World} {oo : Nat → Prop} {l L : List Pr} {hb kc : Nat} {c : CF} {G : Gr.GS} {u : Int}
theorem leafF_g (xa n r : Int) (hx : 0 ≤ xa ∧ xa ≤ 64) (hn : 0 ≤ n ∧ n ≤ 1000000) (hr : 0 ≤ r ∧ r ≤ 64) (hu : 0 ≤ u ∧ u < c.mia) (hcl : r + 1 ≤ c.l) (hfn : u + r + 1 + 2 ≤ c.n) (hh : Gr.has G xa = true) (hf : Gr.fits G r 1 = true) (h : SepO W oo w L) (i : Nat) (hi : L[i]? = some (Hst hb kc c G u)) : Calls Tryz.prog 20 #[pt hb, .int .i64 xa, .int .i64 n, .int .i64 r] w fun e w' => e = .returned (.bool true) ∧ SepO W oo w' (L.set i (Hst hb kc c (leafG G xa n r) (u + r + 1 + 2))) := by
  obtain ⟨e1, e2⟩ := leaf_eq (n := n) hh hf
  obtain ⟨hx0, hx1⟩ := hx
  obtain ⟨hn0, hn1⟩ := hn
  obtain ⟨hr0, hr1⟩ := hr
  have hl := (List.getElem?_eq_some_iff.1 hi).1
  have hw : IntKind.u64.wrap n = n := u64_small (by omega)
  have fE := run_fE
  have HI := Lib.hid hi
  have H := Lib.hid h
  have HL := Lib.hid hl
  have HE2 := Lib.hid e2
  have HH := Lib.hid hh
  clear h hi hl hh hf e1 e2
  go_enter Tryz.func20, Tryz.ntmps20
  go_wp2_with fail
  refine (doF_g (c := c) (G := G) (kc := kc) xa r 1 0 (wf5 (by omega) (by omega) (by omega) (by omega) (by omega)) hu (by omega) (by omega) HH.out H.out i HI.out).mono ?_
  rintro e w1 ⟨rfl, h1⟩
  have H1 := Lib.hid h1
  simp only [erA]
  clear h1 H
  go_wp2_with fail
  refine (doW_g (c := c) (kc := kc) xa 0 n (wf5 (by omega) (by omega) (by omega) (by omega) (by omega)) H1.out i (by rw [List.getElem?_set_self HL.out])).mono ?_
  rintro e w2 ⟨rfl, h2⟩
  rw [HE2.out] at h2 ⊢
  rw [List.set_set] at h2
  have H2 := Lib.hid h2
  simp only [erA]
  clear h2 H1
  go_wp2_with fail
  go_ret
  exact ⟨rfl, H2.out⟩
/-- What a join comes to. -/
def joinG (G : Gr.GS) (n : Int) : Gr.GS := (Gr.gdo (Gr.gdo (Gr.gdo (leafG G 5 (1000 + n) 2) ⟨3, 5, 0, 0, 0⟩).2 ⟨3, 5, 1, 4, 0⟩).2 ⟨7, 4, 5, 0, 0⟩).2
theorem join_g (n : Int) (hn : 0 ≤ n ∧ n ≤ 1000) (hh : Gr.has G 5 = true) (hf : Gr.fits G 2 1 = true) (h : SepO W oo w L) (i : Nat) (hi : L[i]? = some (Hgg hb kc c G)) : Calls Tryz.prog 22 #[pt hb, .int .i64 n] w fun e w' => (e = .returned (.bool false) ∧ SepO W oo w' L) ∨ (e = .returned (.bool true) ∧ SepO W oo w' (L.set i (Hgg hb kc c (joinG G n)))) := by
  obtain ⟨hn0, hn1⟩ := hn
  have hw : wrap64 (1000 + n) = 1000 + n := by unfold wrap64; omega
  have hl := (List.getElem?_eq_some_iff.1 hi).1
  have HI := Lib.hid hi
  have H := Lib.hid h
  have HL := Lib.hid hl
  have HH := Lib.hid hh
  have HF := Lib.hid hf
  clear h hi hl hh hf
  go_enter Tryz.func22, Tryz.ntmps22
  go_wp2_with fail
  refine (leaf_g (c := c) (kc := kc) 5 (1000 + n) 2 (by omega) (by omega) (by omega) HH.out HF.out H.out i HI.out).mono ?_
  rintro e w1 (⟨rfl, h1⟩ | ⟨rfl, h1⟩)
  · have H1 := Lib.hid h1
    clear h1 H
    go_wp2_with fail
    go_ret
    exact .inl ⟨rfl, H1.out⟩
  · have H1 := Lib.hid h1
    clear h1 H
    go_wp2_with fail
    refine (do_g (c := c) (kc := kc) 3 5 0 0 0 (wf5 (by omega) (by omega) (by omega) (by omega) (by omega)) (by decide) H1.out i (by rw [List.getElem?_set_self HL.out])).mono ?_
    rintro e w2 ⟨rfl, h2⟩
    rw [List.set_set] at h2
    have H2 := Lib.hid h2
    obtain ⟨a1, ha1⟩ : ∃ a, (toAn (Gr.gdo (leafG G 5 (1000 + n) 2) ⟨3, 5, 0, 0, 0⟩).1) = a := ⟨_, rfl⟩
    rw [ha1]
    clear h2 H1 ha1
    go_wp2_with fail
    refine (do_g (c := c) (kc := kc) 3 5 1 4 0 (wf5 (by omega) (by omega) (by omega) (by omega) (by omega)) (by decide) H2.out i (by rw [List.getElem?_set_self HL.out])).mono ?_
    rintro e w3 ⟨rfl, h3⟩
    rw [List.set_set] at h3
    have H3 := Lib.hid h3
    generalize (toAn (Gr.gdo (Gr.gdo (leafG G 5 (1000 + n) 2) ⟨3, 5, 0, 0, 0⟩).2 ⟨3, 5, 1, 4, 0⟩).1) = a2
    clear h3 H2
    go_wp2_with fail
    refine (do_g (c := c) (kc := kc) 7 4 5 0 0 (wf5 (by omega) (by omega) (by omega) (by omega) (by omega)) (by decide) H3.out i (by rw [List.getElem?_set_self HL.out])).mono ?_
    rintro e w4 ⟨rfl, h4⟩
    rw [List.set_set] at h4
    have H4 := Lib.hid h4
    generalize (toAn (Gr.gdo (Gr.gdo (Gr.gdo (leafG G 5 (1000 + n) 2) ⟨3, 5, 0, 0, 0⟩).2 ⟨3, 5, 1, 4, 0⟩).2 ⟨7, 4, 5, 0, 0⟩).1) = a3
    clear h4 H3
    go_wp2_with fail
    go_ret
    exact .inr ⟨rfl, H4.out⟩
end
end Go.Proofs.YtihmkkjmnbehbaaGreat.Wh
/- Tree as a contract. Condition: what is taken in reads as lists. -/
set_option linter.unusedVariables false
set_option linter.unusedSimpArgs false
namespace Go.Proofs.YtihmkkjmnbehbaaGreat.Wh
open Go.RowKit Go.Proofs.YtihmkkjmnbehbaaGreat.W Go.Proofs.YtihmkkjmnbehbaaGreat.Sm
set_option maxRecDepth 20000 in
set_option maxHeartbeats 8000000 in
theorem Tree_calls (a b d e : Int) (ha : U8 a) (hb0 : U8 b) (hd : U8 d) (he : U8 e) (w : World) {v : Value} {idle : List Int} (hv : SL w (fun i => i < w.heap.size) .u8 v idle) (hu : ∀ x ∈ idle, U8 x) : Calls Tryz.prog 5 #[.int .u8 a, .int .u8 b, .int .u8 d, .int .u8 e, v] w fun e' w' => e' = .returned (.bool true) ∧ Below w.heap.size w w' := by
  have hm : CFmay ({ cfg a b d e with h := 6, l := 3, n := 80, p := 10 } : CF) := by
    have hm0 := cfg_may ha hb0 hd he
    obtain ⟨k1, k2, k3⟩ := card_ok (a := a) (c := d) ha
    unfold U8 at ha hb0 hd he
    refine ⟨⟨?_, ?_, ?_, ?_, ?_, ?_, ?_, ?_, ?_, ?_, ?_, ?_, ?_, ?_, ?_, ?_, ?_, ?_, ?_, ?_, ?_, ?_, ?_⟩, ?_, ?_, ?_⟩ <;> simp only [cfg] <;> first | exact k1 | exact k2 | exact k3 | omega
  have hn0 : ∀ C : CF, ({ cfg a b d e with h := 6, l := 3, n := 80, p := 10 } : CF) = C → C.h = 6 ∧ C.l = 3 := by
    rintro _ rfl
    unfold U8 at ha hb0 hd he
    (repeat' constructor) <;> (try simp only [cfg]) <;> omega
  have HM := Lib.hid hm
  have HF := Lib.hid hn0
  have HV := Lib.hid hv
  have HU := Lib.hid hu
  clear hu hv
  clear hm hn0
  go_enter Tryz.func5, Tryz.ntmps5
  go_wp2_with fail
  refine (config_l (a := a) (b := b) (d := d) (e := e) ha hb0 hd he (Sep.nil w)).mono ?_
  rintro e1 w1 ⟨rfl, h1⟩
  have H1 := Lib.hid h1
  clear h1
  go_wp2_with fail
  refine (hNew_g (c := ({ cfg a b d e with h := 6, l := 3, n := 80, p := 10 } : CF)) HM.out (H1.out.alloc _)).mono ?_
  rintro e2 w2 ⟨hb, kc, rfl, h2⟩
  obtain ⟨c, hc⟩ : ∃ c : CF, ({ cfg a b d e with h := 6, l := 3, n := 80, p := 10 } : CF) = c := ⟨_, rfl⟩
  have hF := HF.out c hc
  have hm := HM.out
  rw [hc] at h2 hm
  replace h2 : SepO w (fun _ => False) w2 [Hst hb kc c (⟨[], [0, 0, 0, 0, 0, 0], 3⟩ : Gr.GS) 0] := by
    have e : (⟨[], [0, 0, 0, 0, 0, 0], 3⟩ : Gr.GS) = Gr.gnew c.h c.l := by rw [← hc]; rfl
    rw [e]; exact h2
  have H2 := Lib.hid h2
  have HOK := Lib.hid hm.ok
  clear h2 H1 HM HF hm
  go_wp2_with fail
  refine (wakes_l H2.out).mono ?_
  rintro e3 w3 ⟨rfl, h3⟩
  have H3 := Lib.hid h3
  clear h3 H2
  go_wp2_with fail
  obtain ⟨f3, f4⟩ := hF
  have fE := run_fE
  replace H3 := Lib.hid (hst_gg (i := 0) H3.out rfl)
  replace H3 : Hid (SepO w (fun _ => False) w3 [Hgg hb kc c (⟨[], [0, 0, 0, 0, 0, 0], 3⟩ : Gr.GS)]) := H3
  refine wp_loop_rounds 9 ?_
  rw [rounds_succ]
  as_aux_lemma =>
  go_wp2_with fail
  refine (leaf_g (c := c) (kc := kc) (G := (⟨[], [0, 0, 0, 0, 0, 0], 3⟩ : Gr.GS)) 3 0 0 (by omega) (by omega) (by omega) (by decide) (by decide) H3.out 0 rfl).mono ?_
  rintro e4 w4 (⟨rfl, h4⟩ | ⟨rfl, h4⟩)
  · as_aux_lemma =>
    have H4 := Lib.hid h4
    clear h4 H3
    go_wp2_with fail
    go_ret
    exact ⟨rfl, H4.out.below⟩
  replace h4 : SepO w (fun _ => False) w4 [Hgg hb kc c (⟨[⟨[], [0]⟩], [0, 0, 0, 1, 0, 0], 3⟩ : Gr.GS)] := h4
  have H4 := Lib.hid h4
  clear h4 H3
  go_wp2_with fail
  refine (stir_g (c := c) (kc := kc) (G := (⟨[⟨[], [0]⟩], [0, 0, 0, 1, 0, 0], 3⟩ : Gr.GS)) (0) (by omega) (HV.out.keep H4.out.keep0 (fun _ _ h => h)) HU.out H4.out 0 rfl).mono ?_
  rintro e5 w5 ⟨rfl, h5⟩
  have H5 := Lib.hid h5
  clear h5 H4
  go_wp2_with fail
  refine (do_g (c := c) (kc := kc) (G := (⟨[⟨[], [0]⟩], [0, 0, 0, 1, 0, 0], 3⟩ : Gr.GS)) 7 4 3 0 0 (wf5 (by omega) (by omega) (by omega) (by omega) (by omega)) (by decide) H5.out 0 rfl).mono ?_
  rintro e6 w6 ⟨rfl, h6⟩
  replace h6 : SepO w (fun _ => False) w6 [Hgg hb kc c (⟨[⟨[], [0]⟩], [0, 0, 0, 1, 1, 0], 3⟩ : Gr.GS)] := h6
  rw [show (Gr.gdo (⟨[⟨[], [0]⟩], [0, 0, 0, 1, 0, 0], 3⟩ : Gr.GS) ⟨7, 4, 3, 0, 0⟩).1 = (⟨0, false, 0, 0⟩ : Gr.GA) from rfl]
  simp only [toAn]
  have H6 := Lib.hid h6
  clear h6 H5
  go_wp2_with fail
  refine (do_g (c := c) (kc := kc) (G := (⟨[⟨[], [0]⟩], [0, 0, 0, 1, 1, 0], 3⟩ : Gr.GS)) 7 0 4 0 0 (wf5 (by omega) (by omega) (by omega) (by omega) (by omega)) (by decide) H6.out 0 rfl).mono ?_
  rintro e7 w7 ⟨rfl, h7⟩
  replace h7 : SepO w (fun _ => False) w7 [Hgg hb kc c (⟨[⟨[], [0]⟩], [1, 0, 0, 1, 1, 0], 3⟩ : Gr.GS)] := h7
  rw [show (Gr.gdo (⟨[⟨[], [0]⟩], [0, 0, 0, 1, 1, 0], 3⟩ : Gr.GS) ⟨7, 0, 4, 0, 0⟩).1 = (⟨0, false, 0, 0⟩ : Gr.GA) from rfl]
  simp only [toAn]
  have H7 := Lib.hid h7
  clear h7 H6
  go_wp2_with fail
  rw [rounds_succ]
  as_aux_lemma =>
  go_wp2_with fail
  refine (leaf_g (c := c) (kc := kc) (G := (⟨[⟨[], [0]⟩], [1, 0, 0, 1, 1, 0], 3⟩ : Gr.GS)) 3 1 0 (by omega) (by omega) (by omega) (by decide) (by decide) H7.out 0 rfl).mono ?_
  rintro e8 w8 (⟨rfl, h8⟩ | ⟨rfl, h8⟩)
  · as_aux_lemma =>
    have H8 := Lib.hid h8
    clear h8 H7
    go_wp2_with fail
    go_ret
    exact ⟨rfl, H8.out.below⟩
  replace h8 : SepO w (fun _ => False) w8 [Hgg hb kc c (⟨[⟨[], [0]⟩, ⟨[], [1]⟩], [1, 0, 0, 2, 1, 0], 3⟩ : Gr.GS)] := h8
  have H8 := Lib.hid h8
  clear h8 H7
  go_wp2_with fail
  refine (stir_g (c := c) (kc := kc) (G := (⟨[⟨[], [0]⟩, ⟨[], [1]⟩], [1, 0, 0, 2, 1, 0], 3⟩ : Gr.GS)) (1) (by omega) (HV.out.keep H8.out.keep0 (fun _ _ h => h)) HU.out H8.out 0 rfl).mono ?_
  rintro e9 w9 ⟨rfl, h9⟩
  have H9 := Lib.hid h9
  clear h9 H8
  go_wp2_with fail
  refine (do_g (c := c) (kc := kc) (G := (⟨[⟨[], [0]⟩, ⟨[], [1]⟩], [1, 0, 0, 2, 1, 0], 3⟩ : Gr.GS)) 7 4 3 0 0 (wf5 (by omega) (by omega) (by omega) (by omega) (by omega)) (by decide) H9.out 0 rfl).mono ?_
  rintro e10 w10 ⟨rfl, h10⟩
  replace h10 : SepO w (fun _ => False) w10 [Hgg hb kc c (⟨[⟨[], [0]⟩, ⟨[], [1]⟩], [1, 0, 0, 2, 2, 0], 3⟩ : Gr.GS)] := h10
  rw [show (Gr.gdo (⟨[⟨[], [0]⟩, ⟨[], [1]⟩], [1, 0, 0, 2, 1, 0], 3⟩ : Gr.GS) ⟨7, 4, 3, 0, 0⟩).1 = (⟨0, false, 0, 0⟩ : Gr.GA) from rfl]
  simp only [toAn]
  have H10 := Lib.hid h10
  clear h10 H9
  go_wp2_with fail
  refine (join_g (c := c) (kc := kc) (G := (⟨[⟨[], [0]⟩, ⟨[], [1]⟩], [1, 0, 0, 2, 2, 0], 3⟩ : Gr.GS)) 2 (by omega) (by decide) (by decide) H10.out 0 rfl).mono ?_
  rintro e11 w11 (⟨rfl, h11⟩ | ⟨rfl, h11⟩)
  · as_aux_lemma =>
    have H11 := Lib.hid h11
    clear h11 H10
    go_wp2_with fail
    go_ret
    exact ⟨rfl, H11.out.below⟩
  replace h11 : SepO w (fun _ => False) w11 [Hgg hb kc c (⟨[⟨[], [0]⟩, ⟨[], [1]⟩, ⟨[1, 2], [1002]⟩], [1, 0, 0, 2, 3, 3], 3⟩ : Gr.GS)] := h11
  have H11 := Lib.hid h11
  clear h11 H10
  go_wp2_with fail
  refine (do_g (c := c) (kc := kc) (G := (⟨[⟨[], [0]⟩, ⟨[], [1]⟩, ⟨[1, 2], [1002]⟩], [1, 0, 0, 2, 3, 3], 3⟩ : Gr.GS)) 7 0 4 0 0 (wf5 (by omega) (by omega) (by omega) (by omega) (by omega)) (by decide) H11.out 0 rfl).mono ?_
  rintro e12 w12 ⟨rfl, h12⟩
  replace h12 : SepO w (fun _ => False) w12 [Hgg hb kc c (⟨[⟨[], [0]⟩, ⟨[], [1]⟩, ⟨[1, 2], [1002]⟩], [3, 0, 0, 2, 3, 3], 3⟩ : Gr.GS)] := h12
  rw [show (Gr.gdo (⟨[⟨[], [0]⟩, ⟨[], [1]⟩, ⟨[1, 2], [1002]⟩], [1, 0, 0, 2, 3, 3], 3⟩ : Gr.GS) ⟨7, 0, 4, 0, 0⟩).1 = (⟨0, false, 0, 0⟩ : Gr.GA) from rfl]
  simp only [toAn]
  have H12 := Lib.hid h12
  clear h12 H11
  go_wp2_with fail
  rw [rounds_succ]
  as_aux_lemma =>
  go_wp2_with fail
  refine (leaf_g (c := c) (kc := kc) (G := (⟨[⟨[], [0]⟩, ⟨[], [1]⟩, ⟨[1, 2], [1002]⟩], [3, 0, 0, 2, 3, 3], 3⟩ : Gr.GS)) 3 2 0 (by omega) (by omega) (by omega) (by decide) (by decide) H12.out 0 rfl).mono ?_
  rintro e13 w13 (⟨rfl, h13⟩ | ⟨rfl, h13⟩)
  · as_aux_lemma =>
    have H13 := Lib.hid h13
    clear h13 H12
    go_wp2_with fail
    go_ret
    exact ⟨rfl, H13.out.below⟩
  replace h13 : SepO w (fun _ => False) w13 [Hgg hb kc c (⟨[⟨[], [0]⟩, ⟨[], [1]⟩, ⟨[1, 2], [1002]⟩, ⟨[], [2]⟩], [3, 0, 0, 4, 3, 3], 3⟩ : Gr.GS)] := h13
  have H13 := Lib.hid h13
  clear h13 H12
  go_wp2_with fail
  refine (stir_g (c := c) (kc := kc) (G := (⟨[⟨[], [0]⟩, ⟨[], [1]⟩, ⟨[1, 2], [1002]⟩, ⟨[], [2]⟩], [3, 0, 0, 4, 3, 3], 3⟩ : Gr.GS)) (2) (by omega) (HV.out.keep H13.out.keep0 (fun _ _ h => h)) HU.out H13.out 0 rfl).mono ?_
  rintro e14 w14 ⟨rfl, h14⟩
  have H14 := Lib.hid h14
  clear h14 H13
  go_wp2_with fail
  refine (do_g (c := c) (kc := kc) (G := (⟨[⟨[], [0]⟩, ⟨[], [1]⟩, ⟨[1, 2], [1002]⟩, ⟨[], [2]⟩], [3, 0, 0, 4, 3, 3], 3⟩ : Gr.GS)) 7 4 3 0 0 (wf5 (by omega) (by omega) (by omega) (by omega) (by omega)) (by decide) H14.out 0 rfl).mono ?_
  rintro e15 w15 ⟨rfl, h15⟩
  replace h15 : SepO w (fun _ => False) w15 [Hgg hb kc c (⟨[⟨[], [0]⟩, ⟨[], [1]⟩, ⟨[1, 2], [1002]⟩, ⟨[], [2]⟩], [3, 0, 0, 4, 4, 3], 3⟩ : Gr.GS)] := h15
  rw [show (Gr.gdo (⟨[⟨[], [0]⟩, ⟨[], [1]⟩, ⟨[1, 2], [1002]⟩, ⟨[], [2]⟩], [3, 0, 0, 4, 3, 3], 3⟩ : Gr.GS) ⟨7, 4, 3, 0, 0⟩).1 = (⟨0, false, 0, 0⟩ : Gr.GA) from rfl]
  simp only [toAn]
  have H15 := Lib.hid h15
  clear h15 H14
  go_wp2_with fail
  refine (join_g (c := c) (kc := kc) (G := (⟨[⟨[], [0]⟩, ⟨[], [1]⟩, ⟨[1, 2], [1002]⟩, ⟨[], [2]⟩], [3, 0, 0, 4, 4, 3], 3⟩ : Gr.GS)) 3 (by omega) (by decide) (by decide) H15.out 0 rfl).mono ?_
  rintro e16 w16 (⟨rfl, h16⟩ | ⟨rfl, h16⟩)
  · as_aux_lemma =>
    have H16 := Lib.hid h16
    clear h16 H15
    go_wp2_with fail
    go_ret
    exact ⟨rfl, H16.out.below⟩
  replace h16 : SepO w (fun _ => False) w16 [Hgg hb kc c (⟨[⟨[], [0]⟩, ⟨[], [1]⟩, ⟨[1, 2], [1002]⟩, ⟨[], [2]⟩, ⟨[3, 4], [1003]⟩], [3, 0, 0, 4, 5, 5], 3⟩ : Gr.GS)] := h16
  have H16 := Lib.hid h16
  clear h16 H15
  go_wp2_with fail
  refine (do_g (c := c) (kc := kc) (G := (⟨[⟨[], [0]⟩, ⟨[], [1]⟩, ⟨[1, 2], [1002]⟩, ⟨[], [2]⟩, ⟨[3, 4], [1003]⟩], [3, 0, 0, 4, 5, 5], 3⟩ : Gr.GS)) 7 0 4 0 0 (wf5 (by omega) (by omega) (by omega) (by omega) (by omega)) (by decide) H16.out 0 rfl).mono ?_
  rintro e17 w17 ⟨rfl, h17⟩
  replace h17 : SepO w (fun _ => False) w17 [Hgg hb kc c (⟨[⟨[], [0]⟩, ⟨[], [1]⟩, ⟨[1, 2], [1002]⟩, ⟨[], [2]⟩, ⟨[3, 4], [1003]⟩], [5, 0, 0, 4, 5, 5], 3⟩ : Gr.GS)] := h17
  rw [show (Gr.gdo (⟨[⟨[], [0]⟩, ⟨[], [1]⟩, ⟨[1, 2], [1002]⟩, ⟨[], [2]⟩, ⟨[3, 4], [1003]⟩], [3, 0, 0, 4, 5, 5], 3⟩ : Gr.GS) ⟨7, 0, 4, 0, 0⟩).1 = (⟨0, false, 0, 0⟩ : Gr.GA) from rfl]
  simp only [toAn]
  have H17 := Lib.hid h17
  clear h17 H16
  go_wp2_with fail
  rw [rounds_succ]
  as_aux_lemma =>
  go_wp2_with fail
  refine (leaf_g (c := c) (kc := kc) (G := (⟨[⟨[], [0]⟩, ⟨[], [1]⟩, ⟨[1, 2], [1002]⟩, ⟨[], [2]⟩, ⟨[3, 4], [1003]⟩], [5, 0, 0, 4, 5, 5], 3⟩ : Gr.GS)) 3 3 0 (by omega) (by omega) (by omega) (by decide) (by decide) H17.out 0 rfl).mono ?_
  rintro e18 w18 (⟨rfl, h18⟩ | ⟨rfl, h18⟩)
  · as_aux_lemma =>
    have H18 := Lib.hid h18
    clear h18 H17
    go_wp2_with fail
    go_ret
    exact ⟨rfl, H18.out.below⟩
  replace h18 : SepO w (fun _ => False) w18 [Hgg hb kc c (⟨[⟨[], [0]⟩, ⟨[], [1]⟩, ⟨[1, 2], [1002]⟩, ⟨[], [2]⟩, ⟨[3, 4], [1003]⟩, ⟨[], [3]⟩], [5, 0, 0, 6, 5, 5], 3⟩ : Gr.GS)] := h18
  have H18 := Lib.hid h18
  clear h18 H17
  go_wp2_with fail
  refine (stir_g (c := c) (kc := kc) (G := (⟨[⟨[], [0]⟩, ⟨[], [1]⟩, ⟨[1, 2], [1002]⟩, ⟨[], [2]⟩, ⟨[3, 4], [1003]⟩, ⟨[], [3]⟩], [5, 0, 0, 6, 5, 5], 3⟩ : Gr.GS)) (3) (by omega) (HV.out.keep H18.out.keep0 (fun _ _ h => h)) HU.out H18.out 0 rfl).mono ?_
  rintro e19 w19 ⟨rfl, h19⟩
  have H19 := Lib.hid h19
  clear h19 H18
  go_wp2_with fail
  refine (do_g (c := c) (kc := kc) (G := (⟨[⟨[], [0]⟩, ⟨[], [1]⟩, ⟨[1, 2], [1002]⟩, ⟨[], [2]⟩, ⟨[3, 4], [1003]⟩, ⟨[], [3]⟩], [5, 0, 0, 6, 5, 5], 3⟩ : Gr.GS)) 7 4 3 0 0 (wf5 (by omega) (by omega) (by omega) (by omega) (by omega)) (by decide) H19.out 0 rfl).mono ?_
  rintro e20 w20 ⟨rfl, h20⟩
  replace h20 : SepO w (fun _ => False) w20 [Hgg hb kc c (⟨[⟨[], [0]⟩, ⟨[], [1]⟩, ⟨[1, 2], [1002]⟩, ⟨[], [2]⟩, ⟨[3, 4], [1003]⟩, ⟨[], [3]⟩], [5, 0, 0, 6, 6, 5], 3⟩ : Gr.GS)] := h20
  rw [show (Gr.gdo (⟨[⟨[], [0]⟩, ⟨[], [1]⟩, ⟨[1, 2], [1002]⟩, ⟨[], [2]⟩, ⟨[3, 4], [1003]⟩, ⟨[], [3]⟩], [5, 0, 0, 6, 5, 5], 3⟩ : Gr.GS) ⟨7, 4, 3, 0, 0⟩).1 = (⟨0, false, 0, 0⟩ : Gr.GA) from rfl]
  simp only [toAn]
  have H20 := Lib.hid h20
  clear h20 H19
  go_wp2_with fail
  refine (join_g (c := c) (kc := kc) (G := (⟨[⟨[], [0]⟩, ⟨[], [1]⟩, ⟨[1, 2], [1002]⟩, ⟨[], [2]⟩, ⟨[3, 4], [1003]⟩, ⟨[], [3]⟩], [5, 0, 0, 6, 6, 5], 3⟩ : Gr.GS)) 4 (by omega) (by decide) (by decide) H20.out 0 rfl).mono ?_
  rintro e21 w21 (⟨rfl, h21⟩ | ⟨rfl, h21⟩)
  · as_aux_lemma =>
    have H21 := Lib.hid h21
    clear h21 H20
    go_wp2_with fail
    go_ret
    exact ⟨rfl, H21.out.below⟩
  replace h21 : SepO w (fun _ => False) w21 [Hgg hb kc c (⟨[⟨[], [0]⟩, ⟨[], [1]⟩, ⟨[1, 2], [1002]⟩, ⟨[], [2]⟩, ⟨[3, 4], [1003]⟩, ⟨[], [3]⟩, ⟨[5, 6], [1004]⟩], [5, 0, 0, 6, 7, 7], 3⟩ : Gr.GS)] := h21
  have H21 := Lib.hid h21
  clear h21 H20
  go_wp2_with fail
  refine (do_g (c := c) (kc := kc) (G := (⟨[⟨[], [0]⟩, ⟨[], [1]⟩, ⟨[1, 2], [1002]⟩, ⟨[], [2]⟩, ⟨[3, 4], [1003]⟩, ⟨[], [3]⟩, ⟨[5, 6], [1004]⟩], [5, 0, 0, 6, 7, 7], 3⟩ : Gr.GS)) 7 0 4 0 0 (wf5 (by omega) (by omega) (by omega) (by omega) (by omega)) (by decide) H21.out 0 rfl).mono ?_
  rintro e22 w22 ⟨rfl, h22⟩
  replace h22 : SepO w (fun _ => False) w22 [Hgg hb kc c (⟨[⟨[], [0]⟩, ⟨[], [1]⟩, ⟨[1, 2], [1002]⟩, ⟨[], [2]⟩, ⟨[3, 4], [1003]⟩, ⟨[], [3]⟩, ⟨[5, 6], [1004]⟩], [7, 0, 0, 6, 7, 7], 3⟩ : Gr.GS)] := h22
  rw [show (Gr.gdo (⟨[⟨[], [0]⟩, ⟨[], [1]⟩, ⟨[1, 2], [1002]⟩, ⟨[], [2]⟩, ⟨[3, 4], [1003]⟩, ⟨[], [3]⟩, ⟨[5, 6], [1004]⟩], [5, 0, 0, 6, 7, 7], 3⟩ : Gr.GS) ⟨7, 0, 4, 0, 0⟩).1 = (⟨0, false, 0, 0⟩ : Gr.GA) from rfl]
  simp only [toAn]
  have H22 := Lib.hid h22
  clear h22 H21
  go_wp2_with fail
  rw [rounds_succ]
  as_aux_lemma =>
  go_wp2_with fail
  refine (leaf_g (c := c) (kc := kc) (G := (⟨[⟨[], [0]⟩, ⟨[], [1]⟩, ⟨[1, 2], [1002]⟩, ⟨[], [2]⟩, ⟨[3, 4], [1003]⟩, ⟨[], [3]⟩, ⟨[5, 6], [1004]⟩], [7, 0, 0, 6, 7, 7], 3⟩ : Gr.GS)) 3 4 0 (by omega) (by omega) (by omega) (by decide) (by decide) H22.out 0 rfl).mono ?_
  rintro e23 w23 (⟨rfl, h23⟩ | ⟨rfl, h23⟩)
  · as_aux_lemma =>
    have H23 := Lib.hid h23
    clear h23 H22
    go_wp2_with fail
    go_ret
    exact ⟨rfl, H23.out.below⟩
  replace h23 : SepO w (fun _ => False) w23 [Hgg hb kc c (⟨[⟨[], [0]⟩, ⟨[], [1]⟩, ⟨[1, 2], [1002]⟩, ⟨[], [2]⟩, ⟨[3, 4], [1003]⟩, ⟨[], [3]⟩, ⟨[5, 6], [1004]⟩, ⟨[], [4]⟩], [7, 0, 0, 8, 7, 7], 3⟩ : Gr.GS)] := h23
  have H23 := Lib.hid h23
  clear h23 H22
  go_wp2_with fail
  refine (stir_g (c := c) (kc := kc) (G := (⟨[⟨[], [0]⟩, ⟨[], [1]⟩, ⟨[1, 2], [1002]⟩, ⟨[], [2]⟩, ⟨[3, 4], [1003]⟩, ⟨[], [3]⟩, ⟨[5, 6], [1004]⟩, ⟨[], [4]⟩], [7, 0, 0, 8, 7, 7], 3⟩ : Gr.GS)) (4) (by omega) (HV.out.keep H23.out.keep0 (fun _ _ h => h)) HU.out H23.out 0 rfl).mono ?_
  rintro e24 w24 ⟨rfl, h24⟩
  have H24 := Lib.hid h24
  clear h24 H23
  go_wp2_with fail
  refine (do_g (c := c) (kc := kc) (G := (⟨[⟨[], [0]⟩, ⟨[], [1]⟩, ⟨[1, 2], [1002]⟩, ⟨[], [2]⟩, ⟨[3, 4], [1003]⟩, ⟨[], [3]⟩, ⟨[5, 6], [1004]⟩, ⟨[], [4]⟩], [7, 0, 0, 8, 7, 7], 3⟩ : Gr.GS)) 7 4 3 0 0 (wf5 (by omega) (by omega) (by omega) (by omega) (by omega)) (by decide) H24.out 0 rfl).mono ?_
  rintro e25 w25 ⟨rfl, h25⟩
  replace h25 : SepO w (fun _ => False) w25 [Hgg hb kc c (⟨[⟨[], [0]⟩, ⟨[], [1]⟩, ⟨[1, 2], [1002]⟩, ⟨[], [2]⟩, ⟨[3, 4], [1003]⟩, ⟨[], [3]⟩, ⟨[5, 6], [1004]⟩, ⟨[], [4]⟩], [7, 0, 0, 8, 8, 7], 3⟩ : Gr.GS)] := h25
  rw [show (Gr.gdo (⟨[⟨[], [0]⟩, ⟨[], [1]⟩, ⟨[1, 2], [1002]⟩, ⟨[], [2]⟩, ⟨[3, 4], [1003]⟩, ⟨[], [3]⟩, ⟨[5, 6], [1004]⟩, ⟨[], [4]⟩], [7, 0, 0, 8, 7, 7], 3⟩ : Gr.GS) ⟨7, 4, 3, 0, 0⟩).1 = (⟨0, false, 0, 0⟩ : Gr.GA) from rfl]
  simp only [toAn]
  have H25 := Lib.hid h25
  clear h25 H24
  go_wp2_with fail
  refine (join_g (c := c) (kc := kc) (G := (⟨[⟨[], [0]⟩, ⟨[], [1]⟩, ⟨[1, 2], [1002]⟩, ⟨[], [2]⟩, ⟨[3, 4], [1003]⟩, ⟨[], [3]⟩, ⟨[5, 6], [1004]⟩, ⟨[], [4]⟩], [7, 0, 0, 8, 8, 7], 3⟩ : Gr.GS)) 5 (by omega) (by decide) (by decide) H25.out 0 rfl).mono ?_
  rintro e26 w26 (⟨rfl, h26⟩ | ⟨rfl, h26⟩)
  · as_aux_lemma =>
    have H26 := Lib.hid h26
    clear h26 H25
    go_wp2_with fail
    go_ret
    exact ⟨rfl, H26.out.below⟩
  replace h26 : SepO w (fun _ => False) w26 [Hgg hb kc c (⟨[⟨[], [0]⟩, ⟨[], [1]⟩, ⟨[1, 2], [1002]⟩, ⟨[], [2]⟩, ⟨[3, 4], [1003]⟩, ⟨[], [3]⟩, ⟨[5, 6], [1004]⟩, ⟨[], [4]⟩, ⟨[7, 8], [1005]⟩], [7, 0, 0, 8, 9, 9], 3⟩ : Gr.GS)] := h26
  have H26 := Lib.hid h26
  clear h26 H25
  go_wp2_with fail
  refine (do_g (c := c) (kc := kc) (G := (⟨[⟨[], [0]⟩, ⟨[], [1]⟩, ⟨[1, 2], [1002]⟩, ⟨[], [2]⟩, ⟨[3, 4], [1003]⟩, ⟨[], [3]⟩, ⟨[5, 6], [1004]⟩, ⟨[], [4]⟩, ⟨[7, 8], [1005]⟩], [7, 0, 0, 8, 9, 9], 3⟩ : Gr.GS)) 7 0 4 0 0 (wf5 (by omega) (by omega) (by omega) (by omega) (by omega)) (by decide) H26.out 0 rfl).mono ?_
  rintro e27 w27 ⟨rfl, h27⟩
  replace h27 : SepO w (fun _ => False) w27 [Hgg hb kc c (⟨[⟨[], [0]⟩, ⟨[], [1]⟩, ⟨[1, 2], [1002]⟩, ⟨[], [2]⟩, ⟨[3, 4], [1003]⟩, ⟨[], [3]⟩, ⟨[5, 6], [1004]⟩, ⟨[], [4]⟩, ⟨[7, 8], [1005]⟩], [9, 0, 0, 8, 9, 9], 3⟩ : Gr.GS)] := h27
  rw [show (Gr.gdo (⟨[⟨[], [0]⟩, ⟨[], [1]⟩, ⟨[1, 2], [1002]⟩, ⟨[], [2]⟩, ⟨[3, 4], [1003]⟩, ⟨[], [3]⟩, ⟨[5, 6], [1004]⟩, ⟨[], [4]⟩, ⟨[7, 8], [1005]⟩], [7, 0, 0, 8, 9, 9], 3⟩ : Gr.GS) ⟨7, 0, 4, 0, 0⟩).1 = (⟨0, false, 0, 0⟩ : Gr.GA) from rfl]
  simp only [toAn]
  have H27 := Lib.hid h27
  clear h27 H26
  go_wp2_with fail
  rw [rounds_succ]
  as_aux_lemma =>
  go_wp2_with fail
  refine (leaf_g (c := c) (kc := kc) (G := (⟨[⟨[], [0]⟩, ⟨[], [1]⟩, ⟨[1, 2], [1002]⟩, ⟨[], [2]⟩, ⟨[3, 4], [1003]⟩, ⟨[], [3]⟩, ⟨[5, 6], [1004]⟩, ⟨[], [4]⟩, ⟨[7, 8], [1005]⟩], [9, 0, 0, 8, 9, 9], 3⟩ : Gr.GS)) 3 5 0 (by omega) (by omega) (by omega) (by decide) (by decide) H27.out 0 rfl).mono ?_
  rintro e28 w28 (⟨rfl, h28⟩ | ⟨rfl, h28⟩)
  · as_aux_lemma =>
    have H28 := Lib.hid h28
    clear h28 H27
    go_wp2_with fail
    go_ret
    exact ⟨rfl, H28.out.below⟩
  replace h28 : SepO w (fun _ => False) w28 [Hgg hb kc c (⟨[⟨[], [0]⟩, ⟨[], [1]⟩, ⟨[1, 2], [1002]⟩, ⟨[], [2]⟩, ⟨[3, 4], [1003]⟩, ⟨[], [3]⟩, ⟨[5, 6], [1004]⟩, ⟨[], [4]⟩, ⟨[7, 8], [1005]⟩, ⟨[], [5]⟩], [9, 0, 0, 10, 9, 9], 3⟩ : Gr.GS)] := h28
  have H28 := Lib.hid h28
  clear h28 H27
  go_wp2_with fail
  refine (stir_g (c := c) (kc := kc) (G := (⟨[⟨[], [0]⟩, ⟨[], [1]⟩, ⟨[1, 2], [1002]⟩, ⟨[], [2]⟩, ⟨[3, 4], [1003]⟩, ⟨[], [3]⟩, ⟨[5, 6], [1004]⟩, ⟨[], [4]⟩, ⟨[7, 8], [1005]⟩, ⟨[], [5]⟩], [9, 0, 0, 10, 9, 9], 3⟩ : Gr.GS)) (5) (by omega) (HV.out.keep H28.out.keep0 (fun _ _ h => h)) HU.out H28.out 0 rfl).mono ?_
  rintro e29 w29 ⟨rfl, h29⟩
  have H29 := Lib.hid h29
  clear h29 H28
  go_wp2_with fail
  refine (do_g (c := c) (kc := kc) (G := (⟨[⟨[], [0]⟩, ⟨[], [1]⟩, ⟨[1, 2], [1002]⟩, ⟨[], [2]⟩, ⟨[3, 4], [1003]⟩, ⟨[], [3]⟩, ⟨[5, 6], [1004]⟩, ⟨[], [4]⟩, ⟨[7, 8], [1005]⟩, ⟨[], [5]⟩], [9, 0, 0, 10, 9, 9], 3⟩ : Gr.GS)) 7 4 3 0 0 (wf5 (by omega) (by omega) (by omega) (by omega) (by omega)) (by decide) H29.out 0 rfl).mono ?_
  rintro e30 w30 ⟨rfl, h30⟩
  replace h30 : SepO w (fun _ => False) w30 [Hgg hb kc c (⟨[⟨[], [0]⟩, ⟨[], [1]⟩, ⟨[1, 2], [1002]⟩, ⟨[], [2]⟩, ⟨[3, 4], [1003]⟩, ⟨[], [3]⟩, ⟨[5, 6], [1004]⟩, ⟨[], [4]⟩, ⟨[7, 8], [1005]⟩, ⟨[], [5]⟩], [9, 0, 0, 10, 10, 9], 3⟩ : Gr.GS)] := h30
  rw [show (Gr.gdo (⟨[⟨[], [0]⟩, ⟨[], [1]⟩, ⟨[1, 2], [1002]⟩, ⟨[], [2]⟩, ⟨[3, 4], [1003]⟩, ⟨[], [3]⟩, ⟨[5, 6], [1004]⟩, ⟨[], [4]⟩, ⟨[7, 8], [1005]⟩, ⟨[], [5]⟩], [9, 0, 0, 10, 9, 9], 3⟩ : Gr.GS) ⟨7, 4, 3, 0, 0⟩).1 = (⟨0, false, 0, 0⟩ : Gr.GA) from rfl]
  simp only [toAn]
  have H30 := Lib.hid h30
  clear h30 H29
  go_wp2_with fail
  refine (join_g (c := c) (kc := kc) (G := (⟨[⟨[], [0]⟩, ⟨[], [1]⟩, ⟨[1, 2], [1002]⟩, ⟨[], [2]⟩, ⟨[3, 4], [1003]⟩, ⟨[], [3]⟩, ⟨[5, 6], [1004]⟩, ⟨[], [4]⟩, ⟨[7, 8], [1005]⟩, ⟨[], [5]⟩], [9, 0, 0, 10, 10, 9], 3⟩ : Gr.GS)) 6 (by omega) (by decide) (by decide) H30.out 0 rfl).mono ?_
  rintro e31 w31 (⟨rfl, h31⟩ | ⟨rfl, h31⟩)
  · as_aux_lemma =>
    have H31 := Lib.hid h31
    clear h31 H30
    go_wp2_with fail
    go_ret
    exact ⟨rfl, H31.out.below⟩
  replace h31 : SepO w (fun _ => False) w31 [Hgg hb kc c (⟨[⟨[], [0]⟩, ⟨[], [1]⟩, ⟨[1, 2], [1002]⟩, ⟨[], [2]⟩, ⟨[3, 4], [1003]⟩, ⟨[], [3]⟩, ⟨[5, 6], [1004]⟩, ⟨[], [4]⟩, ⟨[7, 8], [1005]⟩, ⟨[], [5]⟩, ⟨[9, 10], [1006]⟩], [9, 0, 0, 10, 11, 11], 3⟩ : Gr.GS)] := h31
  have H31 := Lib.hid h31
  clear h31 H30
  go_wp2_with fail
  refine (do_g (c := c) (kc := kc) (G := (⟨[⟨[], [0]⟩, ⟨[], [1]⟩, ⟨[1, 2], [1002]⟩, ⟨[], [2]⟩, ⟨[3, 4], [1003]⟩, ⟨[], [3]⟩, ⟨[5, 6], [1004]⟩, ⟨[], [4]⟩, ⟨[7, 8], [1005]⟩, ⟨[], [5]⟩, ⟨[9, 10], [1006]⟩], [9, 0, 0, 10, 11, 11], 3⟩ : Gr.GS)) 7 0 4 0 0 (wf5 (by omega) (by omega) (by omega) (by omega) (by omega)) (by decide) H31.out 0 rfl).mono ?_
  rintro e32 w32 ⟨rfl, h32⟩
  replace h32 : SepO w (fun _ => False) w32 [Hgg hb kc c (⟨[⟨[], [0]⟩, ⟨[], [1]⟩, ⟨[1, 2], [1002]⟩, ⟨[], [2]⟩, ⟨[3, 4], [1003]⟩, ⟨[], [3]⟩, ⟨[5, 6], [1004]⟩, ⟨[], [4]⟩, ⟨[7, 8], [1005]⟩, ⟨[], [5]⟩, ⟨[9, 10], [1006]⟩], [11, 0, 0, 10, 11, 11], 3⟩ : Gr.GS)] := h32
  rw [show (Gr.gdo (⟨[⟨[], [0]⟩, ⟨[], [1]⟩, ⟨[1, 2], [1002]⟩, ⟨[], [2]⟩, ⟨[3, 4], [1003]⟩, ⟨[], [3]⟩, ⟨[5, 6], [1004]⟩, ⟨[], [4]⟩, ⟨[7, 8], [1005]⟩, ⟨[], [5]⟩, ⟨[9, 10], [1006]⟩], [9, 0, 0, 10, 11, 11], 3⟩ : Gr.GS) ⟨7, 0, 4, 0, 0⟩).1 = (⟨0, false, 0, 0⟩ : Gr.GA) from rfl]
  simp only [toAn]
  have H32 := Lib.hid h32
  clear h32 H31
  go_wp2_with fail
  rw [rounds_succ]
  as_aux_lemma =>
  go_wp2_with fail
  refine (leaf_g (c := c) (kc := kc) (G := (⟨[⟨[], [0]⟩, ⟨[], [1]⟩, ⟨[1, 2], [1002]⟩, ⟨[], [2]⟩, ⟨[3, 4], [1003]⟩, ⟨[], [3]⟩, ⟨[5, 6], [1004]⟩, ⟨[], [4]⟩, ⟨[7, 8], [1005]⟩, ⟨[], [5]⟩, ⟨[9, 10], [1006]⟩], [11, 0, 0, 10, 11, 11], 3⟩ : Gr.GS)) 3 6 0 (by omega) (by omega) (by omega) (by decide) (by decide) H32.out 0 rfl).mono ?_
  rintro e33 w33 (⟨rfl, h33⟩ | ⟨rfl, h33⟩)
  · as_aux_lemma =>
    have H33 := Lib.hid h33
    clear h33 H32
    go_wp2_with fail
    go_ret
    exact ⟨rfl, H33.out.below⟩
  replace h33 : SepO w (fun _ => False) w33 [Hgg hb kc c (⟨[⟨[], [0]⟩, ⟨[], [1]⟩, ⟨[1, 2], [1002]⟩, ⟨[], [2]⟩, ⟨[3, 4], [1003]⟩, ⟨[], [3]⟩, ⟨[5, 6], [1004]⟩, ⟨[], [4]⟩, ⟨[7, 8], [1005]⟩, ⟨[], [5]⟩, ⟨[9, 10], [1006]⟩, ⟨[], [6]⟩], [11, 0, 0, 12, 11, 11], 3⟩ : Gr.GS)] := h33
  have H33 := Lib.hid h33
  clear h33 H32
  go_wp2_with fail
  refine (stir_g (c := c) (kc := kc) (G := (⟨[⟨[], [0]⟩, ⟨[], [1]⟩, ⟨[1, 2], [1002]⟩, ⟨[], [2]⟩, ⟨[3, 4], [1003]⟩, ⟨[], [3]⟩, ⟨[5, 6], [1004]⟩, ⟨[], [4]⟩, ⟨[7, 8], [1005]⟩, ⟨[], [5]⟩, ⟨[9, 10], [1006]⟩, ⟨[], [6]⟩], [11, 0, 0, 12, 11, 11], 3⟩ : Gr.GS)) (6) (by omega) (HV.out.keep H33.out.keep0 (fun _ _ h => h)) HU.out H33.out 0 rfl).mono ?_
  rintro e34 w34 ⟨rfl, h34⟩
  have H34 := Lib.hid h34
  clear h34 H33
  go_wp2_with fail
  refine (do_g (c := c) (kc := kc) (G := (⟨[⟨[], [0]⟩, ⟨[], [1]⟩, ⟨[1, 2], [1002]⟩, ⟨[], [2]⟩, ⟨[3, 4], [1003]⟩, ⟨[], [3]⟩, ⟨[5, 6], [1004]⟩, ⟨[], [4]⟩, ⟨[7, 8], [1005]⟩, ⟨[], [5]⟩, ⟨[9, 10], [1006]⟩, ⟨[], [6]⟩], [11, 0, 0, 12, 11, 11], 3⟩ : Gr.GS)) 7 4 3 0 0 (wf5 (by omega) (by omega) (by omega) (by omega) (by omega)) (by decide) H34.out 0 rfl).mono ?_
  rintro e35 w35 ⟨rfl, h35⟩
  replace h35 : SepO w (fun _ => False) w35 [Hgg hb kc c (⟨[⟨[], [0]⟩, ⟨[], [1]⟩, ⟨[1, 2], [1002]⟩, ⟨[], [2]⟩, ⟨[3, 4], [1003]⟩, ⟨[], [3]⟩, ⟨[5, 6], [1004]⟩, ⟨[], [4]⟩, ⟨[7, 8], [1005]⟩, ⟨[], [5]⟩, ⟨[9, 10], [1006]⟩, ⟨[], [6]⟩], [11, 0, 0, 12, 12, 11], 3⟩ : Gr.GS)] := h35
  rw [show (Gr.gdo (⟨[⟨[], [0]⟩, ⟨[], [1]⟩, ⟨[1, 2], [1002]⟩, ⟨[], [2]⟩, ⟨[3, 4], [1003]⟩, ⟨[], [3]⟩, ⟨[5, 6], [1004]⟩, ⟨[], [4]⟩, ⟨[7, 8], [1005]⟩, ⟨[], [5]⟩, ⟨[9, 10], [1006]⟩, ⟨[], [6]⟩], [11, 0, 0, 12, 11, 11], 3⟩ : Gr.GS) ⟨7, 4, 3, 0, 0⟩).1 = (⟨0, false, 0, 0⟩ : Gr.GA) from rfl]
  simp only [toAn]
  have H35 := Lib.hid h35
  clear h35 H34
  go_wp2_with fail
  refine (join_g (c := c) (kc := kc) (G := (⟨[⟨[], [0]⟩, ⟨[], [1]⟩, ⟨[1, 2], [1002]⟩, ⟨[], [2]⟩, ⟨[3, 4], [1003]⟩, ⟨[], [3]⟩, ⟨[5, 6], [1004]⟩, ⟨[], [4]⟩, ⟨[7, 8], [1005]⟩, ⟨[], [5]⟩, ⟨[9, 10], [1006]⟩, ⟨[], [6]⟩], [11, 0, 0, 12, 12, 11], 3⟩ : Gr.GS)) 7 (by omega) (by decide) (by decide) H35.out 0 rfl).mono ?_
  rintro e36 w36 (⟨rfl, h36⟩ | ⟨rfl, h36⟩)
  · as_aux_lemma =>
    have H36 := Lib.hid h36
    clear h36 H35
    go_wp2_with fail
    go_ret
    exact ⟨rfl, H36.out.below⟩
  replace h36 : SepO w (fun _ => False) w36 [Hgg hb kc c (⟨[⟨[], [0]⟩, ⟨[], [1]⟩, ⟨[1, 2], [1002]⟩, ⟨[], [2]⟩, ⟨[3, 4], [1003]⟩, ⟨[], [3]⟩, ⟨[5, 6], [1004]⟩, ⟨[], [4]⟩, ⟨[7, 8], [1005]⟩, ⟨[], [5]⟩, ⟨[9, 10], [1006]⟩, ⟨[], [6]⟩, ⟨[11, 12], [1007]⟩], [11, 0, 0, 12, 13, 13], 3⟩ : Gr.GS)] := h36
  have H36 := Lib.hid h36
  clear h36 H35
  go_wp2_with fail
  refine (do_g (c := c) (kc := kc) (G := (⟨[⟨[], [0]⟩, ⟨[], [1]⟩, ⟨[1, 2], [1002]⟩, ⟨[], [2]⟩, ⟨[3, 4], [1003]⟩, ⟨[], [3]⟩, ⟨[5, 6], [1004]⟩, ⟨[], [4]⟩, ⟨[7, 8], [1005]⟩, ⟨[], [5]⟩, ⟨[9, 10], [1006]⟩, ⟨[], [6]⟩, ⟨[11, 12], [1007]⟩], [11, 0, 0, 12, 13, 13], 3⟩ : Gr.GS)) 7 0 4 0 0 (wf5 (by omega) (by omega) (by omega) (by omega) (by omega)) (by decide) H36.out 0 rfl).mono ?_
  rintro e37 w37 ⟨rfl, h37⟩
  replace h37 : SepO w (fun _ => False) w37 [Hgg hb kc c (⟨[⟨[], [0]⟩, ⟨[], [1]⟩, ⟨[1, 2], [1002]⟩, ⟨[], [2]⟩, ⟨[3, 4], [1003]⟩, ⟨[], [3]⟩, ⟨[5, 6], [1004]⟩, ⟨[], [4]⟩, ⟨[7, 8], [1005]⟩, ⟨[], [5]⟩, ⟨[9, 10], [1006]⟩, ⟨[], [6]⟩, ⟨[11, 12], [1007]⟩], [13, 0, 0, 12, 13, 13], 3⟩ : Gr.GS)] := h37
  rw [show (Gr.gdo (⟨[⟨[], [0]⟩, ⟨[], [1]⟩, ⟨[1, 2], [1002]⟩, ⟨[], [2]⟩, ⟨[3, 4], [1003]⟩, ⟨[], [3]⟩, ⟨[5, 6], [1004]⟩, ⟨[], [4]⟩, ⟨[7, 8], [1005]⟩, ⟨[], [5]⟩, ⟨[9, 10], [1006]⟩, ⟨[], [6]⟩, ⟨[11, 12], [1007]⟩], [11, 0, 0, 12, 13, 13], 3⟩ : Gr.GS) ⟨7, 0, 4, 0, 0⟩).1 = (⟨0, false, 0, 0⟩ : Gr.GA) from rfl]
  simp only [toAn]
  have H37 := Lib.hid h37
  clear h37 H36
  go_wp2_with fail
  rw [rounds_succ]
  as_aux_lemma =>
  go_wp2_with fail
  refine (leaf_g (c := c) (kc := kc) (G := (⟨[⟨[], [0]⟩, ⟨[], [1]⟩, ⟨[1, 2], [1002]⟩, ⟨[], [2]⟩, ⟨[3, 4], [1003]⟩, ⟨[], [3]⟩, ⟨[5, 6], [1004]⟩, ⟨[], [4]⟩, ⟨[7, 8], [1005]⟩, ⟨[], [5]⟩, ⟨[9, 10], [1006]⟩, ⟨[], [6]⟩, ⟨[11, 12], [1007]⟩], [13, 0, 0, 12, 13, 13], 3⟩ : Gr.GS)) 3 7 0 (by omega) (by omega) (by omega) (by decide) (by decide) H37.out 0 rfl).mono ?_
  rintro e38 w38 (⟨rfl, h38⟩ | ⟨rfl, h38⟩)
  · as_aux_lemma =>
    have H38 := Lib.hid h38
    clear h38 H37
    go_wp2_with fail
    go_ret
    exact ⟨rfl, H38.out.below⟩
  replace h38 : SepO w (fun _ => False) w38 [Hgg hb kc c (⟨[⟨[], [0]⟩, ⟨[], [1]⟩, ⟨[1, 2], [1002]⟩, ⟨[], [2]⟩, ⟨[3, 4], [1003]⟩, ⟨[], [3]⟩, ⟨[5, 6], [1004]⟩, ⟨[], [4]⟩, ⟨[7, 8], [1005]⟩, ⟨[], [5]⟩, ⟨[9, 10], [1006]⟩, ⟨[], [6]⟩, ⟨[11, 12], [1007]⟩, ⟨[], [7]⟩], [13, 0, 0, 14, 13, 13], 3⟩ : Gr.GS)] := h38
  have H38 := Lib.hid h38
  clear h38 H37
  go_wp2_with fail
  refine (stir_g (c := c) (kc := kc) (G := (⟨[⟨[], [0]⟩, ⟨[], [1]⟩, ⟨[1, 2], [1002]⟩, ⟨[], [2]⟩, ⟨[3, 4], [1003]⟩, ⟨[], [3]⟩, ⟨[5, 6], [1004]⟩, ⟨[], [4]⟩, ⟨[7, 8], [1005]⟩, ⟨[], [5]⟩, ⟨[9, 10], [1006]⟩, ⟨[], [6]⟩, ⟨[11, 12], [1007]⟩, ⟨[], [7]⟩], [13, 0, 0, 14, 13, 13], 3⟩ : Gr.GS)) (7) (by omega) (HV.out.keep H38.out.keep0 (fun _ _ h => h)) HU.out H38.out 0 rfl).mono ?_
  rintro e39 w39 ⟨rfl, h39⟩
  have H39 := Lib.hid h39
  clear h39 H38
  go_wp2_with fail
  refine (do_g (c := c) (kc := kc) (G := (⟨[⟨[], [0]⟩, ⟨[], [1]⟩, ⟨[1, 2], [1002]⟩, ⟨[], [2]⟩, ⟨[3, 4], [1003]⟩, ⟨[], [3]⟩, ⟨[5, 6], [1004]⟩, ⟨[], [4]⟩, ⟨[7, 8], [1005]⟩, ⟨[], [5]⟩, ⟨[9, 10], [1006]⟩, ⟨[], [6]⟩, ⟨[11, 12], [1007]⟩, ⟨[], [7]⟩], [13, 0, 0, 14, 13, 13], 3⟩ : Gr.GS)) 7 4 3 0 0 (wf5 (by omega) (by omega) (by omega) (by omega) (by omega)) (by decide) H39.out 0 rfl).mono ?_
  rintro e40 w40 ⟨rfl, h40⟩
  replace h40 : SepO w (fun _ => False) w40 [Hgg hb kc c (⟨[⟨[], [0]⟩, ⟨[], [1]⟩, ⟨[1, 2], [1002]⟩, ⟨[], [2]⟩, ⟨[3, 4], [1003]⟩, ⟨[], [3]⟩, ⟨[5, 6], [1004]⟩, ⟨[], [4]⟩, ⟨[7, 8], [1005]⟩, ⟨[], [5]⟩, ⟨[9, 10], [1006]⟩, ⟨[], [6]⟩, ⟨[11, 12], [1007]⟩, ⟨[], [7]⟩], [13, 0, 0, 14, 14, 13], 3⟩ : Gr.GS)] := h40
  rw [show (Gr.gdo (⟨[⟨[], [0]⟩, ⟨[], [1]⟩, ⟨[1, 2], [1002]⟩, ⟨[], [2]⟩, ⟨[3, 4], [1003]⟩, ⟨[], [3]⟩, ⟨[5, 6], [1004]⟩, ⟨[], [4]⟩, ⟨[7, 8], [1005]⟩, ⟨[], [5]⟩, ⟨[9, 10], [1006]⟩, ⟨[], [6]⟩, ⟨[11, 12], [1007]⟩, ⟨[], [7]⟩], [13, 0, 0, 14, 13, 13], 3⟩ : Gr.GS) ⟨7, 4, 3, 0, 0⟩).1 = (⟨0, false, 0, 0⟩ : Gr.GA) from rfl]
  simp only [toAn]
  have H40 := Lib.hid h40
  clear h40 H39
  go_wp2_with fail
  refine (join_g (c := c) (kc := kc) (G := (⟨[⟨[], [0]⟩, ⟨[], [1]⟩, ⟨[1, 2], [1002]⟩, ⟨[], [2]⟩, ⟨[3, 4], [1003]⟩, ⟨[], [3]⟩, ⟨[5, 6], [1004]⟩, ⟨[], [4]⟩, ⟨[7, 8], [1005]⟩, ⟨[], [5]⟩, ⟨[9, 10], [1006]⟩, ⟨[], [6]⟩, ⟨[11, 12], [1007]⟩, ⟨[], [7]⟩], [13, 0, 0, 14, 14, 13], 3⟩ : Gr.GS)) 8 (by omega) (by decide) (by decide) H40.out 0 rfl).mono ?_
  rintro e41 w41 (⟨rfl, h41⟩ | ⟨rfl, h41⟩)
  · as_aux_lemma =>
    have H41 := Lib.hid h41
    clear h41 H40
    go_wp2_with fail
    go_ret
    exact ⟨rfl, H41.out.below⟩
  replace h41 : SepO w (fun _ => False) w41 [Hgg hb kc c (⟨[⟨[], [0]⟩, ⟨[], [1]⟩, ⟨[1, 2], [1002]⟩, ⟨[], [2]⟩, ⟨[3, 4], [1003]⟩, ⟨[], [3]⟩, ⟨[5, 6], [1004]⟩, ⟨[], [4]⟩, ⟨[7, 8], [1005]⟩, ⟨[], [5]⟩, ⟨[9, 10], [1006]⟩, ⟨[], [6]⟩, ⟨[11, 12], [1007]⟩, ⟨[], [7]⟩, ⟨[13, 14], [1008]⟩], [13, 0, 0, 14, 15, 15], 3⟩ : Gr.GS)] := h41
  have H41 := Lib.hid h41
  clear h41 H40
  go_wp2_with fail
  refine (do_g (c := c) (kc := kc) (G := (⟨[⟨[], [0]⟩, ⟨[], [1]⟩, ⟨[1, 2], [1002]⟩, ⟨[], [2]⟩, ⟨[3, 4], [1003]⟩, ⟨[], [3]⟩, ⟨[5, 6], [1004]⟩, ⟨[], [4]⟩, ⟨[7, 8], [1005]⟩, ⟨[], [5]⟩, ⟨[9, 10], [1006]⟩, ⟨[], [6]⟩, ⟨[11, 12], [1007]⟩, ⟨[], [7]⟩, ⟨[13, 14], [1008]⟩], [13, 0, 0, 14, 15, 15], 3⟩ : Gr.GS)) 7 0 4 0 0 (wf5 (by omega) (by omega) (by omega) (by omega) (by omega)) (by decide) H41.out 0 rfl).mono ?_
  rintro e42 w42 ⟨rfl, h42⟩
  replace h42 : SepO w (fun _ => False) w42 [Hgg hb kc c (⟨[⟨[], [0]⟩, ⟨[], [1]⟩, ⟨[1, 2], [1002]⟩, ⟨[], [2]⟩, ⟨[3, 4], [1003]⟩, ⟨[], [3]⟩, ⟨[5, 6], [1004]⟩, ⟨[], [4]⟩, ⟨[7, 8], [1005]⟩, ⟨[], [5]⟩, ⟨[9, 10], [1006]⟩, ⟨[], [6]⟩, ⟨[11, 12], [1007]⟩, ⟨[], [7]⟩, ⟨[13, 14], [1008]⟩], [15, 0, 0, 14, 15, 15], 3⟩ : Gr.GS)] := h42
  rw [show (Gr.gdo (⟨[⟨[], [0]⟩, ⟨[], [1]⟩, ⟨[1, 2], [1002]⟩, ⟨[], [2]⟩, ⟨[3, 4], [1003]⟩, ⟨[], [3]⟩, ⟨[5, 6], [1004]⟩, ⟨[], [4]⟩, ⟨[7, 8], [1005]⟩, ⟨[], [5]⟩, ⟨[9, 10], [1006]⟩, ⟨[], [6]⟩, ⟨[11, 12], [1007]⟩, ⟨[], [7]⟩, ⟨[13, 14], [1008]⟩], [13, 0, 0, 14, 15, 15], 3⟩ : Gr.GS) ⟨7, 0, 4, 0, 0⟩).1 = (⟨0, false, 0, 0⟩ : Gr.GA) from rfl]
  simp only [toAn]
  have H42 := Lib.hid h42
  clear h42 H41
  go_wp2_with fail
  rw [rounds_succ]
  as_aux_lemma =>
  go_wp2_with fail
  refine wp_loop_rounds 9 ?_
  rw [rounds_succ]
  as_aux_lemma =>
  go_wp2_with fail
  refine (stir_g (c := c) (kc := kc) (G := (⟨[⟨[], [0]⟩, ⟨[], [1]⟩, ⟨[1, 2], [1002]⟩, ⟨[], [2]⟩, ⟨[3, 4], [1003]⟩, ⟨[], [3]⟩, ⟨[5, 6], [1004]⟩, ⟨[], [4]⟩, ⟨[7, 8], [1005]⟩, ⟨[], [5]⟩, ⟨[9, 10], [1006]⟩, ⟨[], [6]⟩, ⟨[11, 12], [1007]⟩, ⟨[], [7]⟩, ⟨[13, 14], [1008]⟩], [15, 0, 0, 14, 15, 15], 3⟩ : Gr.GS)) (7) (by omega) (HV.out.keep H42.out.keep0 (fun _ _ h => h)) HU.out H42.out 0 rfl).mono ?_
  rintro e43 w43 ⟨rfl, h43⟩
  have H43 := Lib.hid h43
  clear h43 H42
  go_wp2_with fail
  refine (do_g (c := c) (kc := kc) (G := (⟨[⟨[], [0]⟩, ⟨[], [1]⟩, ⟨[1, 2], [1002]⟩, ⟨[], [2]⟩, ⟨[3, 4], [1003]⟩, ⟨[], [3]⟩, ⟨[5, 6], [1004]⟩, ⟨[], [4]⟩, ⟨[7, 8], [1005]⟩, ⟨[], [5]⟩, ⟨[9, 10], [1006]⟩, ⟨[], [6]⟩, ⟨[11, 12], [1007]⟩, ⟨[], [7]⟩, ⟨[13, 14], [1008]⟩], [15, 0, 0, 14, 15, 15], 3⟩ : Gr.GS)) 4 0 0 0 0 (wf5 (by omega) (by omega) (by omega) (by omega) (by omega)) (by decide) H43.out 0 rfl).mono ?_
  rintro e44 w44 ⟨rfl, h44⟩
  replace h44 : SepO w (fun _ => False) w44 [Hgg hb kc c (⟨[⟨[], [0]⟩, ⟨[], [1]⟩, ⟨[1, 2], [1002]⟩, ⟨[], [2]⟩, ⟨[3, 4], [1003]⟩, ⟨[], [3]⟩, ⟨[5, 6], [1004]⟩, ⟨[], [4]⟩, ⟨[7, 8], [1005]⟩, ⟨[], [5]⟩, ⟨[9, 10], [1006]⟩, ⟨[], [6]⟩, ⟨[11, 12], [1007]⟩, ⟨[], [7]⟩, ⟨[13, 14], [1008]⟩], [15, 0, 0, 14, 15, 15], 3⟩ : Gr.GS)] := h44
  rw [show (Gr.gdo (⟨[⟨[], [0]⟩, ⟨[], [1]⟩, ⟨[1, 2], [1002]⟩, ⟨[], [2]⟩, ⟨[3, 4], [1003]⟩, ⟨[], [3]⟩, ⟨[5, 6], [1004]⟩, ⟨[], [4]⟩, ⟨[7, 8], [1005]⟩, ⟨[], [5]⟩, ⟨[9, 10], [1006]⟩, ⟨[], [6]⟩, ⟨[11, 12], [1007]⟩, ⟨[], [7]⟩, ⟨[13, 14], [1008]⟩], [15, 0, 0, 14, 15, 15], 3⟩ : Gr.GS) ⟨4, 0, 0, 0, 0⟩).1 = (⟨0, false, 0, 1008⟩ : Gr.GA) from rfl]
  simp only [toAn]
  have h44 := h44.new_blk 33 #[i6 0, .bool false, i6 0, .int .u64 1008]
  obtain ⟨z44, hz44⟩ : ∃ z, w44.heap.size = z := ⟨_, rfl⟩
  rw [hz44] at h44
  have H44 := Lib.hid h44
  clear h44 H43
  have bb0 := H44.out.blk (g := z44) (t := 33) (cs := #[i6 0, .bool false, i6 0, .int .u64 1008]) 1 rfl
  have c0_0 := bb0.cell 0
  have c0_1 := bb0.cell 1
  have c0_2 := bb0.cell 2
  have c0_3 := bb0.cell 3
  have cl0 := bb0.lt
  simp at c0_0 c0_1 c0_2 c0_3
  clear bb0
  go_wp2_with fail
  refine (do_g (c := c) (kc := kc) (G := (⟨[⟨[], [0]⟩, ⟨[], [1]⟩, ⟨[1, 2], [1002]⟩, ⟨[], [2]⟩, ⟨[3, 4], [1003]⟩, ⟨[], [3]⟩, ⟨[5, 6], [1004]⟩, ⟨[], [4]⟩, ⟨[7, 8], [1005]⟩, ⟨[], [5]⟩, ⟨[9, 10], [1006]⟩, ⟨[], [6]⟩, ⟨[11, 12], [1007]⟩, ⟨[], [7]⟩, ⟨[13, 14], [1008]⟩], [15, 0, 0, 14, 15, 15], 3⟩ : Gr.GS)) 2 1 0 1 0 (wf5 (by omega) (by omega) (by omega) (by omega) (by omega)) (by decide) H44.out 0 rfl).mono ?_
  rintro e45 w45 ⟨rfl, h45⟩
  replace h45 : SepO w (fun _ => False) w45 [Hgg hb kc c (⟨[⟨[], [0]⟩, ⟨[], [1]⟩, ⟨[1, 2], [1002]⟩, ⟨[], [2]⟩, ⟨[3, 4], [1003]⟩, ⟨[], [3]⟩, ⟨[5, 6], [1004]⟩, ⟨[], [4]⟩, ⟨[7, 8], [1005]⟩, ⟨[], [5]⟩, ⟨[9, 10], [1006]⟩, ⟨[], [6]⟩, ⟨[11, 12], [1007]⟩, ⟨[], [7]⟩, ⟨[13, 14], [1008]⟩], [15, 14, 0, 14, 15, 15], 3⟩ : Gr.GS), blkP z44 33 #[i6 0, .bool false, i6 0, .int .u64 1008]] := h45
  rw [show (Gr.gdo (⟨[⟨[], [0]⟩, ⟨[], [1]⟩, ⟨[1, 2], [1002]⟩, ⟨[], [2]⟩, ⟨[3, 4], [1003]⟩, ⟨[], [3]⟩, ⟨[5, 6], [1004]⟩, ⟨[], [4]⟩, ⟨[7, 8], [1005]⟩, ⟨[], [5]⟩, ⟨[9, 10], [1006]⟩, ⟨[], [6]⟩, ⟨[11, 12], [1007]⟩, ⟨[], [7]⟩, ⟨[13, 14], [1008]⟩], [15, 0, 0, 14, 15, 15], 3⟩ : Gr.GS) ⟨2, 1, 0, 1, 0⟩).1 = (⟨0, false, 0, 0⟩ : Gr.GA) from rfl]
  simp only [toAn]
  have H45 := Lib.hid h45
  clear h45 H44
  go_wp2_with fail
  refine (do_g (c := c) (kc := kc) (G := (⟨[⟨[], [0]⟩, ⟨[], [1]⟩, ⟨[1, 2], [1002]⟩, ⟨[], [2]⟩, ⟨[3, 4], [1003]⟩, ⟨[], [3]⟩, ⟨[5, 6], [1004]⟩, ⟨[], [4]⟩, ⟨[7, 8], [1005]⟩, ⟨[], [5]⟩, ⟨[9, 10], [1006]⟩, ⟨[], [6]⟩, ⟨[11, 12], [1007]⟩, ⟨[], [7]⟩, ⟨[13, 14], [1008]⟩], [15, 14, 0, 14, 15, 15], 3⟩ : Gr.GS)) 4 1 0 0 0 (wf5 (by omega) (by omega) (by omega) (by omega) (by omega)) (by decide) H45.out 0 rfl).mono ?_
  rintro e46 w46 ⟨rfl, h46⟩
  replace h46 : SepO w (fun _ => False) w46 [Hgg hb kc c (⟨[⟨[], [0]⟩, ⟨[], [1]⟩, ⟨[1, 2], [1002]⟩, ⟨[], [2]⟩, ⟨[3, 4], [1003]⟩, ⟨[], [3]⟩, ⟨[5, 6], [1004]⟩, ⟨[], [4]⟩, ⟨[7, 8], [1005]⟩, ⟨[], [5]⟩, ⟨[9, 10], [1006]⟩, ⟨[], [6]⟩, ⟨[11, 12], [1007]⟩, ⟨[], [7]⟩, ⟨[13, 14], [1008]⟩], [15, 14, 0, 14, 15, 15], 3⟩ : Gr.GS), blkP z44 33 #[i6 0, .bool false, i6 0, .int .u64 1008]] := h46
  rw [show (Gr.gdo (⟨[⟨[], [0]⟩, ⟨[], [1]⟩, ⟨[1, 2], [1002]⟩, ⟨[], [2]⟩, ⟨[3, 4], [1003]⟩, ⟨[], [3]⟩, ⟨[5, 6], [1004]⟩, ⟨[], [4]⟩, ⟨[7, 8], [1005]⟩, ⟨[], [5]⟩, ⟨[9, 10], [1006]⟩, ⟨[], [6]⟩, ⟨[11, 12], [1007]⟩, ⟨[], [7]⟩, ⟨[13, 14], [1008]⟩], [15, 14, 0, 14, 15, 15], 3⟩ : Gr.GS) ⟨4, 1, 0, 0, 0⟩).1 = (⟨0, false, 0, 7⟩ : Gr.GA) from rfl]
  simp only [toAn]
  have h46 := h46.new_blk 33 #[i6 0, .bool false, i6 0, .int .u64 7]
  obtain ⟨z46, hz46⟩ : ∃ z, w46.heap.size = z := ⟨_, rfl⟩
  rw [hz46] at h46
  have H46 := Lib.hid h46
  clear h46 H45
  have bb0 := H46.out.blk (g := z44) (t := 33) (cs := #[i6 0, .bool false, i6 0, .int .u64 1008]) 1 rfl
  have c0_0 := bb0.cell 0
  have c0_1 := bb0.cell 1
  have c0_2 := bb0.cell 2
  have c0_3 := bb0.cell 3
  have cl0 := bb0.lt
  have bb1 := H46.out.blk (g := z46) (t := 33) (cs := #[i6 0, .bool false, i6 0, .int .u64 7]) 2 rfl
  have c1_0 := bb1.cell 0
  have c1_1 := bb1.cell 1
  have c1_2 := bb1.cell 2
  have c1_3 := bb1.cell 3
  have cl1 := bb1.lt
  simp at c0_0 c0_1 c0_2 c0_3 c1_0 c1_1 c1_2 c1_3
  clear bb0 bb1
  go_wp2_with fail
  refine (do_g (c := c) (kc := kc) (G := (⟨[⟨[], [0]⟩, ⟨[], [1]⟩, ⟨[1, 2], [1002]⟩, ⟨[], [2]⟩, ⟨[3, 4], [1003]⟩, ⟨[], [3]⟩, ⟨[5, 6], [1004]⟩, ⟨[], [4]⟩, ⟨[7, 8], [1005]⟩, ⟨[], [5]⟩, ⟨[9, 10], [1006]⟩, ⟨[], [6]⟩, ⟨[11, 12], [1007]⟩, ⟨[], [7]⟩, ⟨[13, 14], [1008]⟩], [15, 14, 0, 14, 15, 15], 3⟩ : Gr.GS)) 2 0 0 0 0 (wf5 (by omega) (by omega) (by omega) (by omega) (by omega)) (by decide) H46.out 0 rfl).mono ?_
  rintro e47 w47 ⟨rfl, h47⟩
  replace h47 : SepO w (fun _ => False) w47 [Hgg hb kc c (⟨[⟨[], [0]⟩, ⟨[], [1]⟩, ⟨[1, 2], [1002]⟩, ⟨[], [2]⟩, ⟨[3, 4], [1003]⟩, ⟨[], [3]⟩, ⟨[5, 6], [1004]⟩, ⟨[], [4]⟩, ⟨[7, 8], [1005]⟩, ⟨[], [5]⟩, ⟨[9, 10], [1006]⟩, ⟨[], [6]⟩, ⟨[11, 12], [1007]⟩, ⟨[], [7]⟩, ⟨[13, 14], [1008]⟩], [13, 14, 0, 14, 15, 15], 3⟩ : Gr.GS), blkP z44 33 #[i6 0, .bool false, i6 0, .int .u64 1008], blkP z46 33 #[i6 0, .bool false, i6 0, .int .u64 7]] := h47
  rw [show (Gr.gdo (⟨[⟨[], [0]⟩, ⟨[], [1]⟩, ⟨[1, 2], [1002]⟩, ⟨[], [2]⟩, ⟨[3, 4], [1003]⟩, ⟨[], [3]⟩, ⟨[5, 6], [1004]⟩, ⟨[], [4]⟩, ⟨[7, 8], [1005]⟩, ⟨[], [5]⟩, ⟨[9, 10], [1006]⟩, ⟨[], [6]⟩, ⟨[11, 12], [1007]⟩, ⟨[], [7]⟩, ⟨[13, 14], [1008]⟩], [15, 14, 0, 14, 15, 15], 3⟩ : Gr.GS) ⟨2, 0, 0, 0, 0⟩).1 = (⟨0, false, 0, 0⟩ : Gr.GA) from rfl]
  simp only [toAn]
  have H47 := Lib.hid h47
  clear h47 H46
  have H98 := Lib.hid (H47.out.first (l := [_]) (m := [_, _]))
  clear H47
  have H47 := H98
  clear H98
  go_wp2_with fail
  rw [rounds_succ]
  as_aux_lemma =>
  go_wp2_with fail
  refine (stir_g (c := c) (kc := kc) (G := (⟨[⟨[], [0]⟩, ⟨[], [1]⟩, ⟨[1, 2], [1002]⟩, ⟨[], [2]⟩, ⟨[3, 4], [1003]⟩, ⟨[], [3]⟩, ⟨[5, 6], [1004]⟩, ⟨[], [4]⟩, ⟨[7, 8], [1005]⟩, ⟨[], [5]⟩, ⟨[9, 10], [1006]⟩, ⟨[], [6]⟩, ⟨[11, 12], [1007]⟩, ⟨[], [7]⟩, ⟨[13, 14], [1008]⟩], [13, 14, 0, 14, 15, 15], 3⟩ : Gr.GS)) (6) (by omega) (HV.out.keep H47.out.keep0 (fun _ _ h => h)) HU.out H47.out 0 rfl).mono ?_
  rintro e48 w48 ⟨rfl, h48⟩
  have H48 := Lib.hid h48
  clear h48 H47
  go_wp2_with fail
  refine (do_g (c := c) (kc := kc) (G := (⟨[⟨[], [0]⟩, ⟨[], [1]⟩, ⟨[1, 2], [1002]⟩, ⟨[], [2]⟩, ⟨[3, 4], [1003]⟩, ⟨[], [3]⟩, ⟨[5, 6], [1004]⟩, ⟨[], [4]⟩, ⟨[7, 8], [1005]⟩, ⟨[], [5]⟩, ⟨[9, 10], [1006]⟩, ⟨[], [6]⟩, ⟨[11, 12], [1007]⟩, ⟨[], [7]⟩, ⟨[13, 14], [1008]⟩], [13, 14, 0, 14, 15, 15], 3⟩ : Gr.GS)) 4 0 0 0 0 (wf5 (by omega) (by omega) (by omega) (by omega) (by omega)) (by decide) H48.out 0 rfl).mono ?_
  rintro e49 w49 ⟨rfl, h49⟩
  replace h49 : SepO w (fun _ => False) w49 [Hgg hb kc c (⟨[⟨[], [0]⟩, ⟨[], [1]⟩, ⟨[1, 2], [1002]⟩, ⟨[], [2]⟩, ⟨[3, 4], [1003]⟩, ⟨[], [3]⟩, ⟨[5, 6], [1004]⟩, ⟨[], [4]⟩, ⟨[7, 8], [1005]⟩, ⟨[], [5]⟩, ⟨[9, 10], [1006]⟩, ⟨[], [6]⟩, ⟨[11, 12], [1007]⟩, ⟨[], [7]⟩, ⟨[13, 14], [1008]⟩], [13, 14, 0, 14, 15, 15], 3⟩ : Gr.GS)] := h49
  rw [show (Gr.gdo (⟨[⟨[], [0]⟩, ⟨[], [1]⟩, ⟨[1, 2], [1002]⟩, ⟨[], [2]⟩, ⟨[3, 4], [1003]⟩, ⟨[], [3]⟩, ⟨[5, 6], [1004]⟩, ⟨[], [4]⟩, ⟨[7, 8], [1005]⟩, ⟨[], [5]⟩, ⟨[9, 10], [1006]⟩, ⟨[], [6]⟩, ⟨[11, 12], [1007]⟩, ⟨[], [7]⟩, ⟨[13, 14], [1008]⟩], [13, 14, 0, 14, 15, 15], 3⟩ : Gr.GS) ⟨4, 0, 0, 0, 0⟩).1 = (⟨0, false, 0, 1007⟩ : Gr.GA) from rfl]
  simp only [toAn]
  have h49 := h49.new_blk 33 #[i6 0, .bool false, i6 0, .int .u64 1007]
  obtain ⟨z49, hz49⟩ : ∃ z, w49.heap.size = z := ⟨_, rfl⟩
  rw [hz49] at h49
  have H49 := Lib.hid h49
  clear h49 H48
  have bb0 := H49.out.blk (g := z49) (t := 33) (cs := #[i6 0, .bool false, i6 0, .int .u64 1007]) 1 rfl
  have c0_0 := bb0.cell 0
  have c0_1 := bb0.cell 1
  have c0_2 := bb0.cell 2
  have c0_3 := bb0.cell 3
  have cl0 := bb0.lt
  simp at c0_0 c0_1 c0_2 c0_3
  clear bb0
  go_wp2_with fail
  refine (do_g (c := c) (kc := kc) (G := (⟨[⟨[], [0]⟩, ⟨[], [1]⟩, ⟨[1, 2], [1002]⟩, ⟨[], [2]⟩, ⟨[3, 4], [1003]⟩, ⟨[], [3]⟩, ⟨[5, 6], [1004]⟩, ⟨[], [4]⟩, ⟨[7, 8], [1005]⟩, ⟨[], [5]⟩, ⟨[9, 10], [1006]⟩, ⟨[], [6]⟩, ⟨[11, 12], [1007]⟩, ⟨[], [7]⟩, ⟨[13, 14], [1008]⟩], [13, 14, 0, 14, 15, 15], 3⟩ : Gr.GS)) 2 1 0 1 0 (wf5 (by omega) (by omega) (by omega) (by omega) (by omega)) (by decide) H49.out 0 rfl).mono ?_
  rintro e50 w50 ⟨rfl, h50⟩
  replace h50 : SepO w (fun _ => False) w50 [Hgg hb kc c (⟨[⟨[], [0]⟩, ⟨[], [1]⟩, ⟨[1, 2], [1002]⟩, ⟨[], [2]⟩, ⟨[3, 4], [1003]⟩, ⟨[], [3]⟩, ⟨[5, 6], [1004]⟩, ⟨[], [4]⟩, ⟨[7, 8], [1005]⟩, ⟨[], [5]⟩, ⟨[9, 10], [1006]⟩, ⟨[], [6]⟩, ⟨[11, 12], [1007]⟩, ⟨[], [7]⟩, ⟨[13, 14], [1008]⟩], [13, 12, 0, 14, 15, 15], 3⟩ : Gr.GS), blkP z49 33 #[i6 0, .bool false, i6 0, .int .u64 1007]] := h50
  rw [show (Gr.gdo (⟨[⟨[], [0]⟩, ⟨[], [1]⟩, ⟨[1, 2], [1002]⟩, ⟨[], [2]⟩, ⟨[3, 4], [1003]⟩, ⟨[], [3]⟩, ⟨[5, 6], [1004]⟩, ⟨[], [4]⟩, ⟨[7, 8], [1005]⟩, ⟨[], [5]⟩, ⟨[9, 10], [1006]⟩, ⟨[], [6]⟩, ⟨[11, 12], [1007]⟩, ⟨[], [7]⟩, ⟨[13, 14], [1008]⟩], [13, 14, 0, 14, 15, 15], 3⟩ : Gr.GS) ⟨2, 1, 0, 1, 0⟩).1 = (⟨0, false, 0, 0⟩ : Gr.GA) from rfl]
  simp only [toAn]
  have H50 := Lib.hid h50
  clear h50 H49
  go_wp2_with fail
  refine (do_g (c := c) (kc := kc) (G := (⟨[⟨[], [0]⟩, ⟨[], [1]⟩, ⟨[1, 2], [1002]⟩, ⟨[], [2]⟩, ⟨[3, 4], [1003]⟩, ⟨[], [3]⟩, ⟨[5, 6], [1004]⟩, ⟨[], [4]⟩, ⟨[7, 8], [1005]⟩, ⟨[], [5]⟩, ⟨[9, 10], [1006]⟩, ⟨[], [6]⟩, ⟨[11, 12], [1007]⟩, ⟨[], [7]⟩, ⟨[13, 14], [1008]⟩], [13, 12, 0, 14, 15, 15], 3⟩ : Gr.GS)) 4 1 0 0 0 (wf5 (by omega) (by omega) (by omega) (by omega) (by omega)) (by decide) H50.out 0 rfl).mono ?_
  rintro e51 w51 ⟨rfl, h51⟩
  replace h51 : SepO w (fun _ => False) w51 [Hgg hb kc c (⟨[⟨[], [0]⟩, ⟨[], [1]⟩, ⟨[1, 2], [1002]⟩, ⟨[], [2]⟩, ⟨[3, 4], [1003]⟩, ⟨[], [3]⟩, ⟨[5, 6], [1004]⟩, ⟨[], [4]⟩, ⟨[7, 8], [1005]⟩, ⟨[], [5]⟩, ⟨[9, 10], [1006]⟩, ⟨[], [6]⟩, ⟨[11, 12], [1007]⟩, ⟨[], [7]⟩, ⟨[13, 14], [1008]⟩], [13, 12, 0, 14, 15, 15], 3⟩ : Gr.GS), blkP z49 33 #[i6 0, .bool false, i6 0, .int .u64 1007]] := h51
  rw [show (Gr.gdo (⟨[⟨[], [0]⟩, ⟨[], [1]⟩, ⟨[1, 2], [1002]⟩, ⟨[], [2]⟩, ⟨[3, 4], [1003]⟩, ⟨[], [3]⟩, ⟨[5, 6], [1004]⟩, ⟨[], [4]⟩, ⟨[7, 8], [1005]⟩, ⟨[], [5]⟩, ⟨[9, 10], [1006]⟩, ⟨[], [6]⟩, ⟨[11, 12], [1007]⟩, ⟨[], [7]⟩, ⟨[13, 14], [1008]⟩], [13, 12, 0, 14, 15, 15], 3⟩ : Gr.GS) ⟨4, 1, 0, 0, 0⟩).1 = (⟨0, false, 0, 6⟩ : Gr.GA) from rfl]
  simp only [toAn]
  have h51 := h51.new_blk 33 #[i6 0, .bool false, i6 0, .int .u64 6]
  obtain ⟨z51, hz51⟩ : ∃ z, w51.heap.size = z := ⟨_, rfl⟩
  rw [hz51] at h51
  have H51 := Lib.hid h51
  clear h51 H50
  have bb0 := H51.out.blk (g := z49) (t := 33) (cs := #[i6 0, .bool false, i6 0, .int .u64 1007]) 1 rfl
  have c0_0 := bb0.cell 0
  have c0_1 := bb0.cell 1
  have c0_2 := bb0.cell 2
  have c0_3 := bb0.cell 3
  have cl0 := bb0.lt
  have bb1 := H51.out.blk (g := z51) (t := 33) (cs := #[i6 0, .bool false, i6 0, .int .u64 6]) 2 rfl
  have c1_0 := bb1.cell 0
  have c1_1 := bb1.cell 1
  have c1_2 := bb1.cell 2
  have c1_3 := bb1.cell 3
  have cl1 := bb1.lt
  simp at c0_0 c0_1 c0_2 c0_3 c1_0 c1_1 c1_2 c1_3
  clear bb0 bb1
  go_wp2_with fail
  refine (do_g (c := c) (kc := kc) (G := (⟨[⟨[], [0]⟩, ⟨[], [1]⟩, ⟨[1, 2], [1002]⟩, ⟨[], [2]⟩, ⟨[3, 4], [1003]⟩, ⟨[], [3]⟩, ⟨[5, 6], [1004]⟩, ⟨[], [4]⟩, ⟨[7, 8], [1005]⟩, ⟨[], [5]⟩, ⟨[9, 10], [1006]⟩, ⟨[], [6]⟩, ⟨[11, 12], [1007]⟩, ⟨[], [7]⟩, ⟨[13, 14], [1008]⟩], [13, 12, 0, 14, 15, 15], 3⟩ : Gr.GS)) 2 0 0 0 0 (wf5 (by omega) (by omega) (by omega) (by omega) (by omega)) (by decide) H51.out 0 rfl).mono ?_
  rintro e52 w52 ⟨rfl, h52⟩
  replace h52 : SepO w (fun _ => False) w52 [Hgg hb kc c (⟨[⟨[], [0]⟩, ⟨[], [1]⟩, ⟨[1, 2], [1002]⟩, ⟨[], [2]⟩, ⟨[3, 4], [1003]⟩, ⟨[], [3]⟩, ⟨[5, 6], [1004]⟩, ⟨[], [4]⟩, ⟨[7, 8], [1005]⟩, ⟨[], [5]⟩, ⟨[9, 10], [1006]⟩, ⟨[], [6]⟩, ⟨[11, 12], [1007]⟩, ⟨[], [7]⟩, ⟨[13, 14], [1008]⟩], [11, 12, 0, 14, 15, 15], 3⟩ : Gr.GS), blkP z49 33 #[i6 0, .bool false, i6 0, .int .u64 1007], blkP z51 33 #[i6 0, .bool false, i6 0, .int .u64 6]] := h52
  rw [show (Gr.gdo (⟨[⟨[], [0]⟩, ⟨[], [1]⟩, ⟨[1, 2], [1002]⟩, ⟨[], [2]⟩, ⟨[3, 4], [1003]⟩, ⟨[], [3]⟩, ⟨[5, 6], [1004]⟩, ⟨[], [4]⟩, ⟨[7, 8], [1005]⟩, ⟨[], [5]⟩, ⟨[9, 10], [1006]⟩, ⟨[], [6]⟩, ⟨[11, 12], [1007]⟩, ⟨[], [7]⟩, ⟨[13, 14], [1008]⟩], [13, 12, 0, 14, 15, 15], 3⟩ : Gr.GS) ⟨2, 0, 0, 0, 0⟩).1 = (⟨0, false, 0, 0⟩ : Gr.GA) from rfl]
  simp only [toAn]
  have H52 := Lib.hid h52
  clear h52 H51
  have H98 := Lib.hid (H52.out.first (l := [_]) (m := [_, _]))
  clear H52
  have H52 := H98
  clear H98
  go_wp2_with fail
  rw [rounds_succ]
  as_aux_lemma =>
  go_wp2_with fail
  refine (stir_g (c := c) (kc := kc) (G := (⟨[⟨[], [0]⟩, ⟨[], [1]⟩, ⟨[1, 2], [1002]⟩, ⟨[], [2]⟩, ⟨[3, 4], [1003]⟩, ⟨[], [3]⟩, ⟨[5, 6], [1004]⟩, ⟨[], [4]⟩, ⟨[7, 8], [1005]⟩, ⟨[], [5]⟩, ⟨[9, 10], [1006]⟩, ⟨[], [6]⟩, ⟨[11, 12], [1007]⟩, ⟨[], [7]⟩, ⟨[13, 14], [1008]⟩], [11, 12, 0, 14, 15, 15], 3⟩ : Gr.GS)) (5) (by omega) (HV.out.keep H52.out.keep0 (fun _ _ h => h)) HU.out H52.out 0 rfl).mono ?_
  rintro e53 w53 ⟨rfl, h53⟩
  have H53 := Lib.hid h53
  clear h53 H52
  go_wp2_with fail
  refine (do_g (c := c) (kc := kc) (G := (⟨[⟨[], [0]⟩, ⟨[], [1]⟩, ⟨[1, 2], [1002]⟩, ⟨[], [2]⟩, ⟨[3, 4], [1003]⟩, ⟨[], [3]⟩, ⟨[5, 6], [1004]⟩, ⟨[], [4]⟩, ⟨[7, 8], [1005]⟩, ⟨[], [5]⟩, ⟨[9, 10], [1006]⟩, ⟨[], [6]⟩, ⟨[11, 12], [1007]⟩, ⟨[], [7]⟩, ⟨[13, 14], [1008]⟩], [11, 12, 0, 14, 15, 15], 3⟩ : Gr.GS)) 4 0 0 0 0 (wf5 (by omega) (by omega) (by omega) (by omega) (by omega)) (by decide) H53.out 0 rfl).mono ?_
  rintro e54 w54 ⟨rfl, h54⟩
  replace h54 : SepO w (fun _ => False) w54 [Hgg hb kc c (⟨[⟨[], [0]⟩, ⟨[], [1]⟩, ⟨[1, 2], [1002]⟩, ⟨[], [2]⟩, ⟨[3, 4], [1003]⟩, ⟨[], [3]⟩, ⟨[5, 6], [1004]⟩, ⟨[], [4]⟩, ⟨[7, 8], [1005]⟩, ⟨[], [5]⟩, ⟨[9, 10], [1006]⟩, ⟨[], [6]⟩, ⟨[11, 12], [1007]⟩, ⟨[], [7]⟩, ⟨[13, 14], [1008]⟩], [11, 12, 0, 14, 15, 15], 3⟩ : Gr.GS)] := h54
  rw [show (Gr.gdo (⟨[⟨[], [0]⟩, ⟨[], [1]⟩, ⟨[1, 2], [1002]⟩, ⟨[], [2]⟩, ⟨[3, 4], [1003]⟩, ⟨[], [3]⟩, ⟨[5, 6], [1004]⟩, ⟨[], [4]⟩, ⟨[7, 8], [1005]⟩, ⟨[], [5]⟩, ⟨[9, 10], [1006]⟩, ⟨[], [6]⟩, ⟨[11, 12], [1007]⟩, ⟨[], [7]⟩, ⟨[13, 14], [1008]⟩], [11, 12, 0, 14, 15, 15], 3⟩ : Gr.GS) ⟨4, 0, 0, 0, 0⟩).1 = (⟨0, false, 0, 1006⟩ : Gr.GA) from rfl]
  simp only [toAn]
  have h54 := h54.new_blk 33 #[i6 0, .bool false, i6 0, .int .u64 1006]
  obtain ⟨z54, hz54⟩ : ∃ z, w54.heap.size = z := ⟨_, rfl⟩
  rw [hz54] at h54
  have H54 := Lib.hid h54
  clear h54 H53
  have bb0 := H54.out.blk (g := z54) (t := 33) (cs := #[i6 0, .bool false, i6 0, .int .u64 1006]) 1 rfl
  have c0_0 := bb0.cell 0
  have c0_1 := bb0.cell 1
  have c0_2 := bb0.cell 2
  have c0_3 := bb0.cell 3
  have cl0 := bb0.lt
  simp at c0_0 c0_1 c0_2 c0_3
  clear bb0
  go_wp2_with fail
  refine (do_g (c := c) (kc := kc) (G := (⟨[⟨[], [0]⟩, ⟨[], [1]⟩, ⟨[1, 2], [1002]⟩, ⟨[], [2]⟩, ⟨[3, 4], [1003]⟩, ⟨[], [3]⟩, ⟨[5, 6], [1004]⟩, ⟨[], [4]⟩, ⟨[7, 8], [1005]⟩, ⟨[], [5]⟩, ⟨[9, 10], [1006]⟩, ⟨[], [6]⟩, ⟨[11, 12], [1007]⟩, ⟨[], [7]⟩, ⟨[13, 14], [1008]⟩], [11, 12, 0, 14, 15, 15], 3⟩ : Gr.GS)) 2 1 0 1 0 (wf5 (by omega) (by omega) (by omega) (by omega) (by omega)) (by decide) H54.out 0 rfl).mono ?_
  rintro e55 w55 ⟨rfl, h55⟩
  replace h55 : SepO w (fun _ => False) w55 [Hgg hb kc c (⟨[⟨[], [0]⟩, ⟨[], [1]⟩, ⟨[1, 2], [1002]⟩, ⟨[], [2]⟩, ⟨[3, 4], [1003]⟩, ⟨[], [3]⟩, ⟨[5, 6], [1004]⟩, ⟨[], [4]⟩, ⟨[7, 8], [1005]⟩, ⟨[], [5]⟩, ⟨[9, 10], [1006]⟩, ⟨[], [6]⟩, ⟨[11, 12], [1007]⟩, ⟨[], [7]⟩, ⟨[13, 14], [1008]⟩], [11, 10, 0, 14, 15, 15], 3⟩ : Gr.GS), blkP z54 33 #[i6 0, .bool false, i6 0, .int .u64 1006]] := h55
  rw [show (Gr.gdo (⟨[⟨[], [0]⟩, ⟨[], [1]⟩, ⟨[1, 2], [1002]⟩, ⟨[], [2]⟩, ⟨[3, 4], [1003]⟩, ⟨[], [3]⟩, ⟨[5, 6], [1004]⟩, ⟨[], [4]⟩, ⟨[7, 8], [1005]⟩, ⟨[], [5]⟩, ⟨[9, 10], [1006]⟩, ⟨[], [6]⟩, ⟨[11, 12], [1007]⟩, ⟨[], [7]⟩, ⟨[13, 14], [1008]⟩], [11, 12, 0, 14, 15, 15], 3⟩ : Gr.GS) ⟨2, 1, 0, 1, 0⟩).1 = (⟨0, false, 0, 0⟩ : Gr.GA) from rfl]
  simp only [toAn]
  have H55 := Lib.hid h55
  clear h55 H54
  go_wp2_with fail
  refine (do_g (c := c) (kc := kc) (G := (⟨[⟨[], [0]⟩, ⟨[], [1]⟩, ⟨[1, 2], [1002]⟩, ⟨[], [2]⟩, ⟨[3, 4], [1003]⟩, ⟨[], [3]⟩, ⟨[5, 6], [1004]⟩, ⟨[], [4]⟩, ⟨[7, 8], [1005]⟩, ⟨[], [5]⟩, ⟨[9, 10], [1006]⟩, ⟨[], [6]⟩, ⟨[11, 12], [1007]⟩, ⟨[], [7]⟩, ⟨[13, 14], [1008]⟩], [11, 10, 0, 14, 15, 15], 3⟩ : Gr.GS)) 4 1 0 0 0 (wf5 (by omega) (by omega) (by omega) (by omega) (by omega)) (by decide) H55.out 0 rfl).mono ?_
  rintro e56 w56 ⟨rfl, h56⟩
  replace h56 : SepO w (fun _ => False) w56 [Hgg hb kc c (⟨[⟨[], [0]⟩, ⟨[], [1]⟩, ⟨[1, 2], [1002]⟩, ⟨[], [2]⟩, ⟨[3, 4], [1003]⟩, ⟨[], [3]⟩, ⟨[5, 6], [1004]⟩, ⟨[], [4]⟩, ⟨[7, 8], [1005]⟩, ⟨[], [5]⟩, ⟨[9, 10], [1006]⟩, ⟨[], [6]⟩, ⟨[11, 12], [1007]⟩, ⟨[], [7]⟩, ⟨[13, 14], [1008]⟩], [11, 10, 0, 14, 15, 15], 3⟩ : Gr.GS), blkP z54 33 #[i6 0, .bool false, i6 0, .int .u64 1006]] := h56
  rw [show (Gr.gdo (⟨[⟨[], [0]⟩, ⟨[], [1]⟩, ⟨[1, 2], [1002]⟩, ⟨[], [2]⟩, ⟨[3, 4], [1003]⟩, ⟨[], [3]⟩, ⟨[5, 6], [1004]⟩, ⟨[], [4]⟩, ⟨[7, 8], [1005]⟩, ⟨[], [5]⟩, ⟨[9, 10], [1006]⟩, ⟨[], [6]⟩, ⟨[11, 12], [1007]⟩, ⟨[], [7]⟩, ⟨[13, 14], [1008]⟩], [11, 10, 0, 14, 15, 15], 3⟩ : Gr.GS) ⟨4, 1, 0, 0, 0⟩).1 = (⟨0, false, 0, 5⟩ : Gr.GA) from rfl]
  simp only [toAn]
  have h56 := h56.new_blk 33 #[i6 0, .bool false, i6 0, .int .u64 5]
  obtain ⟨z56, hz56⟩ : ∃ z, w56.heap.size = z := ⟨_, rfl⟩
  rw [hz56] at h56
  have H56 := Lib.hid h56
  clear h56 H55
  have bb0 := H56.out.blk (g := z54) (t := 33) (cs := #[i6 0, .bool false, i6 0, .int .u64 1006]) 1 rfl
  have c0_0 := bb0.cell 0
  have c0_1 := bb0.cell 1
  have c0_2 := bb0.cell 2
  have c0_3 := bb0.cell 3
  have cl0 := bb0.lt
  have bb1 := H56.out.blk (g := z56) (t := 33) (cs := #[i6 0, .bool false, i6 0, .int .u64 5]) 2 rfl
  have c1_0 := bb1.cell 0
  have c1_1 := bb1.cell 1
  have c1_2 := bb1.cell 2
  have c1_3 := bb1.cell 3
  have cl1 := bb1.lt
  simp at c0_0 c0_1 c0_2 c0_3 c1_0 c1_1 c1_2 c1_3
  clear bb0 bb1
  go_wp2_with fail
  refine (do_g (c := c) (kc := kc) (G := (⟨[⟨[], [0]⟩, ⟨[], [1]⟩, ⟨[1, 2], [1002]⟩, ⟨[], [2]⟩, ⟨[3, 4], [1003]⟩, ⟨[], [3]⟩, ⟨[5, 6], [1004]⟩, ⟨[], [4]⟩, ⟨[7, 8], [1005]⟩, ⟨[], [5]⟩, ⟨[9, 10], [1006]⟩, ⟨[], [6]⟩, ⟨[11, 12], [1007]⟩, ⟨[], [7]⟩, ⟨[13, 14], [1008]⟩], [11, 10, 0, 14, 15, 15], 3⟩ : Gr.GS)) 2 0 0 0 0 (wf5 (by omega) (by omega) (by omega) (by omega) (by omega)) (by decide) H56.out 0 rfl).mono ?_
  rintro e57 w57 ⟨rfl, h57⟩
  replace h57 : SepO w (fun _ => False) w57 [Hgg hb kc c (⟨[⟨[], [0]⟩, ⟨[], [1]⟩, ⟨[1, 2], [1002]⟩, ⟨[], [2]⟩, ⟨[3, 4], [1003]⟩, ⟨[], [3]⟩, ⟨[5, 6], [1004]⟩, ⟨[], [4]⟩, ⟨[7, 8], [1005]⟩, ⟨[], [5]⟩, ⟨[9, 10], [1006]⟩, ⟨[], [6]⟩, ⟨[11, 12], [1007]⟩, ⟨[], [7]⟩, ⟨[13, 14], [1008]⟩], [9, 10, 0, 14, 15, 15], 3⟩ : Gr.GS), blkP z54 33 #[i6 0, .bool false, i6 0, .int .u64 1006], blkP z56 33 #[i6 0, .bool false, i6 0, .int .u64 5]] := h57
  rw [show (Gr.gdo (⟨[⟨[], [0]⟩, ⟨[], [1]⟩, ⟨[1, 2], [1002]⟩, ⟨[], [2]⟩, ⟨[3, 4], [1003]⟩, ⟨[], [3]⟩, ⟨[5, 6], [1004]⟩, ⟨[], [4]⟩, ⟨[7, 8], [1005]⟩, ⟨[], [5]⟩, ⟨[9, 10], [1006]⟩, ⟨[], [6]⟩, ⟨[11, 12], [1007]⟩, ⟨[], [7]⟩, ⟨[13, 14], [1008]⟩], [11, 10, 0, 14, 15, 15], 3⟩ : Gr.GS) ⟨2, 0, 0, 0, 0⟩).1 = (⟨0, false, 0, 0⟩ : Gr.GA) from rfl]
  simp only [toAn]
  have H57 := Lib.hid h57
  clear h57 H56
  have H98 := Lib.hid (H57.out.first (l := [_]) (m := [_, _]))
  clear H57
  have H57 := H98
  clear H98
  go_wp2_with fail
  rw [rounds_succ]
  as_aux_lemma =>
  go_wp2_with fail
  refine (stir_g (c := c) (kc := kc) (G := (⟨[⟨[], [0]⟩, ⟨[], [1]⟩, ⟨[1, 2], [1002]⟩, ⟨[], [2]⟩, ⟨[3, 4], [1003]⟩, ⟨[], [3]⟩, ⟨[5, 6], [1004]⟩, ⟨[], [4]⟩, ⟨[7, 8], [1005]⟩, ⟨[], [5]⟩, ⟨[9, 10], [1006]⟩, ⟨[], [6]⟩, ⟨[11, 12], [1007]⟩, ⟨[], [7]⟩, ⟨[13, 14], [1008]⟩], [9, 10, 0, 14, 15, 15], 3⟩ : Gr.GS)) (4) (by omega) (HV.out.keep H57.out.keep0 (fun _ _ h => h)) HU.out H57.out 0 rfl).mono ?_
  rintro e58 w58 ⟨rfl, h58⟩
  have H58 := Lib.hid h58
  clear h58 H57
  go_wp2_with fail
  refine (do_g (c := c) (kc := kc) (G := (⟨[⟨[], [0]⟩, ⟨[], [1]⟩, ⟨[1, 2], [1002]⟩, ⟨[], [2]⟩, ⟨[3, 4], [1003]⟩, ⟨[], [3]⟩, ⟨[5, 6], [1004]⟩, ⟨[], [4]⟩, ⟨[7, 8], [1005]⟩, ⟨[], [5]⟩, ⟨[9, 10], [1006]⟩, ⟨[], [6]⟩, ⟨[11, 12], [1007]⟩, ⟨[], [7]⟩, ⟨[13, 14], [1008]⟩], [9, 10, 0, 14, 15, 15], 3⟩ : Gr.GS)) 4 0 0 0 0 (wf5 (by omega) (by omega) (by omega) (by omega) (by omega)) (by decide) H58.out 0 rfl).mono ?_
  rintro e59 w59 ⟨rfl, h59⟩
  replace h59 : SepO w (fun _ => False) w59 [Hgg hb kc c (⟨[⟨[], [0]⟩, ⟨[], [1]⟩, ⟨[1, 2], [1002]⟩, ⟨[], [2]⟩, ⟨[3, 4], [1003]⟩, ⟨[], [3]⟩, ⟨[5, 6], [1004]⟩, ⟨[], [4]⟩, ⟨[7, 8], [1005]⟩, ⟨[], [5]⟩, ⟨[9, 10], [1006]⟩, ⟨[], [6]⟩, ⟨[11, 12], [1007]⟩, ⟨[], [7]⟩, ⟨[13, 14], [1008]⟩], [9, 10, 0, 14, 15, 15], 3⟩ : Gr.GS)] := h59
  rw [show (Gr.gdo (⟨[⟨[], [0]⟩, ⟨[], [1]⟩, ⟨[1, 2], [1002]⟩, ⟨[], [2]⟩, ⟨[3, 4], [1003]⟩, ⟨[], [3]⟩, ⟨[5, 6], [1004]⟩, ⟨[], [4]⟩, ⟨[7, 8], [1005]⟩, ⟨[], [5]⟩, ⟨[9, 10], [1006]⟩, ⟨[], [6]⟩, ⟨[11, 12], [1007]⟩, ⟨[], [7]⟩, ⟨[13, 14], [1008]⟩], [9, 10, 0, 14, 15, 15], 3⟩ : Gr.GS) ⟨4, 0, 0, 0, 0⟩).1 = (⟨0, false, 0, 1005⟩ : Gr.GA) from rfl]
  simp only [toAn]
  have h59 := h59.new_blk 33 #[i6 0, .bool false, i6 0, .int .u64 1005]
  obtain ⟨z59, hz59⟩ : ∃ z, w59.heap.size = z := ⟨_, rfl⟩
  rw [hz59] at h59
  have H59 := Lib.hid h59
  clear h59 H58
  have bb0 := H59.out.blk (g := z59) (t := 33) (cs := #[i6 0, .bool false, i6 0, .int .u64 1005]) 1 rfl
  have c0_0 := bb0.cell 0
  have c0_1 := bb0.cell 1
  have c0_2 := bb0.cell 2
  have c0_3 := bb0.cell 3
  have cl0 := bb0.lt
  simp at c0_0 c0_1 c0_2 c0_3
  clear bb0
  go_wp2_with fail
  refine (do_g (c := c) (kc := kc) (G := (⟨[⟨[], [0]⟩, ⟨[], [1]⟩, ⟨[1, 2], [1002]⟩, ⟨[], [2]⟩, ⟨[3, 4], [1003]⟩, ⟨[], [3]⟩, ⟨[5, 6], [1004]⟩, ⟨[], [4]⟩, ⟨[7, 8], [1005]⟩, ⟨[], [5]⟩, ⟨[9, 10], [1006]⟩, ⟨[], [6]⟩, ⟨[11, 12], [1007]⟩, ⟨[], [7]⟩, ⟨[13, 14], [1008]⟩], [9, 10, 0, 14, 15, 15], 3⟩ : Gr.GS)) 2 1 0 1 0 (wf5 (by omega) (by omega) (by omega) (by omega) (by omega)) (by decide) H59.out 0 rfl).mono ?_
  rintro e60 w60 ⟨rfl, h60⟩
  replace h60 : SepO w (fun _ => False) w60 [Hgg hb kc c (⟨[⟨[], [0]⟩, ⟨[], [1]⟩, ⟨[1, 2], [1002]⟩, ⟨[], [2]⟩, ⟨[3, 4], [1003]⟩, ⟨[], [3]⟩, ⟨[5, 6], [1004]⟩, ⟨[], [4]⟩, ⟨[7, 8], [1005]⟩, ⟨[], [5]⟩, ⟨[9, 10], [1006]⟩, ⟨[], [6]⟩, ⟨[11, 12], [1007]⟩, ⟨[], [7]⟩, ⟨[13, 14], [1008]⟩], [9, 8, 0, 14, 15, 15], 3⟩ : Gr.GS), blkP z59 33 #[i6 0, .bool false, i6 0, .int .u64 1005]] := h60
  rw [show (Gr.gdo (⟨[⟨[], [0]⟩, ⟨[], [1]⟩, ⟨[1, 2], [1002]⟩, ⟨[], [2]⟩, ⟨[3, 4], [1003]⟩, ⟨[], [3]⟩, ⟨[5, 6], [1004]⟩, ⟨[], [4]⟩, ⟨[7, 8], [1005]⟩, ⟨[], [5]⟩, ⟨[9, 10], [1006]⟩, ⟨[], [6]⟩, ⟨[11, 12], [1007]⟩, ⟨[], [7]⟩, ⟨[13, 14], [1008]⟩], [9, 10, 0, 14, 15, 15], 3⟩ : Gr.GS) ⟨2, 1, 0, 1, 0⟩).1 = (⟨0, false, 0, 0⟩ : Gr.GA) from rfl]
  simp only [toAn]
  have H60 := Lib.hid h60
  clear h60 H59
  go_wp2_with fail
  refine (do_g (c := c) (kc := kc) (G := (⟨[⟨[], [0]⟩, ⟨[], [1]⟩, ⟨[1, 2], [1002]⟩, ⟨[], [2]⟩, ⟨[3, 4], [1003]⟩, ⟨[], [3]⟩, ⟨[5, 6], [1004]⟩, ⟨[], [4]⟩, ⟨[7, 8], [1005]⟩, ⟨[], [5]⟩, ⟨[9, 10], [1006]⟩, ⟨[], [6]⟩, ⟨[11, 12], [1007]⟩, ⟨[], [7]⟩, ⟨[13, 14], [1008]⟩], [9, 8, 0, 14, 15, 15], 3⟩ : Gr.GS)) 4 1 0 0 0 (wf5 (by omega) (by omega) (by omega) (by omega) (by omega)) (by decide) H60.out 0 rfl).mono ?_
  rintro e61 w61 ⟨rfl, h61⟩
  replace h61 : SepO w (fun _ => False) w61 [Hgg hb kc c (⟨[⟨[], [0]⟩, ⟨[], [1]⟩, ⟨[1, 2], [1002]⟩, ⟨[], [2]⟩, ⟨[3, 4], [1003]⟩, ⟨[], [3]⟩, ⟨[5, 6], [1004]⟩, ⟨[], [4]⟩, ⟨[7, 8], [1005]⟩, ⟨[], [5]⟩, ⟨[9, 10], [1006]⟩, ⟨[], [6]⟩, ⟨[11, 12], [1007]⟩, ⟨[], [7]⟩, ⟨[13, 14], [1008]⟩], [9, 8, 0, 14, 15, 15], 3⟩ : Gr.GS), blkP z59 33 #[i6 0, .bool false, i6 0, .int .u64 1005]] := h61
  rw [show (Gr.gdo (⟨[⟨[], [0]⟩, ⟨[], [1]⟩, ⟨[1, 2], [1002]⟩, ⟨[], [2]⟩, ⟨[3, 4], [1003]⟩, ⟨[], [3]⟩, ⟨[5, 6], [1004]⟩, ⟨[], [4]⟩, ⟨[7, 8], [1005]⟩, ⟨[], [5]⟩, ⟨[9, 10], [1006]⟩, ⟨[], [6]⟩, ⟨[11, 12], [1007]⟩, ⟨[], [7]⟩, ⟨[13, 14], [1008]⟩], [9, 8, 0, 14, 15, 15], 3⟩ : Gr.GS) ⟨4, 1, 0, 0, 0⟩).1 = (⟨0, false, 0, 4⟩ : Gr.GA) from rfl]
  simp only [toAn]
  have h61 := h61.new_blk 33 #[i6 0, .bool false, i6 0, .int .u64 4]
  obtain ⟨z61, hz61⟩ : ∃ z, w61.heap.size = z := ⟨_, rfl⟩
  rw [hz61] at h61
  have H61 := Lib.hid h61
  clear h61 H60
  have bb0 := H61.out.blk (g := z59) (t := 33) (cs := #[i6 0, .bool false, i6 0, .int .u64 1005]) 1 rfl
  have c0_0 := bb0.cell 0
  have c0_1 := bb0.cell 1
  have c0_2 := bb0.cell 2
  have c0_3 := bb0.cell 3
  have cl0 := bb0.lt
  have bb1 := H61.out.blk (g := z61) (t := 33) (cs := #[i6 0, .bool false, i6 0, .int .u64 4]) 2 rfl
  have c1_0 := bb1.cell 0
  have c1_1 := bb1.cell 1
  have c1_2 := bb1.cell 2
  have c1_3 := bb1.cell 3
  have cl1 := bb1.lt
  simp at c0_0 c0_1 c0_2 c0_3 c1_0 c1_1 c1_2 c1_3
  clear bb0 bb1
  go_wp2_with fail
  refine (do_g (c := c) (kc := kc) (G := (⟨[⟨[], [0]⟩, ⟨[], [1]⟩, ⟨[1, 2], [1002]⟩, ⟨[], [2]⟩, ⟨[3, 4], [1003]⟩, ⟨[], [3]⟩, ⟨[5, 6], [1004]⟩, ⟨[], [4]⟩, ⟨[7, 8], [1005]⟩, ⟨[], [5]⟩, ⟨[9, 10], [1006]⟩, ⟨[], [6]⟩, ⟨[11, 12], [1007]⟩, ⟨[], [7]⟩, ⟨[13, 14], [1008]⟩], [9, 8, 0, 14, 15, 15], 3⟩ : Gr.GS)) 2 0 0 0 0 (wf5 (by omega) (by omega) (by omega) (by omega) (by omega)) (by decide) H61.out 0 rfl).mono ?_
  rintro e62 w62 ⟨rfl, h62⟩
  replace h62 : SepO w (fun _ => False) w62 [Hgg hb kc c (⟨[⟨[], [0]⟩, ⟨[], [1]⟩, ⟨[1, 2], [1002]⟩, ⟨[], [2]⟩, ⟨[3, 4], [1003]⟩, ⟨[], [3]⟩, ⟨[5, 6], [1004]⟩, ⟨[], [4]⟩, ⟨[7, 8], [1005]⟩, ⟨[], [5]⟩, ⟨[9, 10], [1006]⟩, ⟨[], [6]⟩, ⟨[11, 12], [1007]⟩, ⟨[], [7]⟩, ⟨[13, 14], [1008]⟩], [7, 8, 0, 14, 15, 15], 3⟩ : Gr.GS), blkP z59 33 #[i6 0, .bool false, i6 0, .int .u64 1005], blkP z61 33 #[i6 0, .bool false, i6 0, .int .u64 4]] := h62
  rw [show (Gr.gdo (⟨[⟨[], [0]⟩, ⟨[], [1]⟩, ⟨[1, 2], [1002]⟩, ⟨[], [2]⟩, ⟨[3, 4], [1003]⟩, ⟨[], [3]⟩, ⟨[5, 6], [1004]⟩, ⟨[], [4]⟩, ⟨[7, 8], [1005]⟩, ⟨[], [5]⟩, ⟨[9, 10], [1006]⟩, ⟨[], [6]⟩, ⟨[11, 12], [1007]⟩, ⟨[], [7]⟩, ⟨[13, 14], [1008]⟩], [9, 8, 0, 14, 15, 15], 3⟩ : Gr.GS) ⟨2, 0, 0, 0, 0⟩).1 = (⟨0, false, 0, 0⟩ : Gr.GA) from rfl]
  simp only [toAn]
  have H62 := Lib.hid h62
  clear h62 H61
  have H98 := Lib.hid (H62.out.first (l := [_]) (m := [_, _]))
  clear H62
  have H62 := H98
  clear H98
  go_wp2_with fail
  rw [rounds_succ]
  as_aux_lemma =>
  go_wp2_with fail
  refine (stir_g (c := c) (kc := kc) (G := (⟨[⟨[], [0]⟩, ⟨[], [1]⟩, ⟨[1, 2], [1002]⟩, ⟨[], [2]⟩, ⟨[3, 4], [1003]⟩, ⟨[], [3]⟩, ⟨[5, 6], [1004]⟩, ⟨[], [4]⟩, ⟨[7, 8], [1005]⟩, ⟨[], [5]⟩, ⟨[9, 10], [1006]⟩, ⟨[], [6]⟩, ⟨[11, 12], [1007]⟩, ⟨[], [7]⟩, ⟨[13, 14], [1008]⟩], [7, 8, 0, 14, 15, 15], 3⟩ : Gr.GS)) (3) (by omega) (HV.out.keep H62.out.keep0 (fun _ _ h => h)) HU.out H62.out 0 rfl).mono ?_
  rintro e63 w63 ⟨rfl, h63⟩
  have H63 := Lib.hid h63
  clear h63 H62
  go_wp2_with fail
  refine (do_g (c := c) (kc := kc) (G := (⟨[⟨[], [0]⟩, ⟨[], [1]⟩, ⟨[1, 2], [1002]⟩, ⟨[], [2]⟩, ⟨[3, 4], [1003]⟩, ⟨[], [3]⟩, ⟨[5, 6], [1004]⟩, ⟨[], [4]⟩, ⟨[7, 8], [1005]⟩, ⟨[], [5]⟩, ⟨[9, 10], [1006]⟩, ⟨[], [6]⟩, ⟨[11, 12], [1007]⟩, ⟨[], [7]⟩, ⟨[13, 14], [1008]⟩], [7, 8, 0, 14, 15, 15], 3⟩ : Gr.GS)) 4 0 0 0 0 (wf5 (by omega) (by omega) (by omega) (by omega) (by omega)) (by decide) H63.out 0 rfl).mono ?_
  rintro e64 w64 ⟨rfl, h64⟩
  replace h64 : SepO w (fun _ => False) w64 [Hgg hb kc c (⟨[⟨[], [0]⟩, ⟨[], [1]⟩, ⟨[1, 2], [1002]⟩, ⟨[], [2]⟩, ⟨[3, 4], [1003]⟩, ⟨[], [3]⟩, ⟨[5, 6], [1004]⟩, ⟨[], [4]⟩, ⟨[7, 8], [1005]⟩, ⟨[], [5]⟩, ⟨[9, 10], [1006]⟩, ⟨[], [6]⟩, ⟨[11, 12], [1007]⟩, ⟨[], [7]⟩, ⟨[13, 14], [1008]⟩], [7, 8, 0, 14, 15, 15], 3⟩ : Gr.GS)] := h64
  rw [show (Gr.gdo (⟨[⟨[], [0]⟩, ⟨[], [1]⟩, ⟨[1, 2], [1002]⟩, ⟨[], [2]⟩, ⟨[3, 4], [1003]⟩, ⟨[], [3]⟩, ⟨[5, 6], [1004]⟩, ⟨[], [4]⟩, ⟨[7, 8], [1005]⟩, ⟨[], [5]⟩, ⟨[9, 10], [1006]⟩, ⟨[], [6]⟩, ⟨[11, 12], [1007]⟩, ⟨[], [7]⟩, ⟨[13, 14], [1008]⟩], [7, 8, 0, 14, 15, 15], 3⟩ : Gr.GS) ⟨4, 0, 0, 0, 0⟩).1 = (⟨0, false, 0, 1004⟩ : Gr.GA) from rfl]
  simp only [toAn]
  have h64 := h64.new_blk 33 #[i6 0, .bool false, i6 0, .int .u64 1004]
  obtain ⟨z64, hz64⟩ : ∃ z, w64.heap.size = z := ⟨_, rfl⟩
  rw [hz64] at h64
  have H64 := Lib.hid h64
  clear h64 H63
  have bb0 := H64.out.blk (g := z64) (t := 33) (cs := #[i6 0, .bool false, i6 0, .int .u64 1004]) 1 rfl
  have c0_0 := bb0.cell 0
  have c0_1 := bb0.cell 1
  have c0_2 := bb0.cell 2
  have c0_3 := bb0.cell 3
  have cl0 := bb0.lt
  simp at c0_0 c0_1 c0_2 c0_3
  clear bb0
  go_wp2_with fail
  refine (do_g (c := c) (kc := kc) (G := (⟨[⟨[], [0]⟩, ⟨[], [1]⟩, ⟨[1, 2], [1002]⟩, ⟨[], [2]⟩, ⟨[3, 4], [1003]⟩, ⟨[], [3]⟩, ⟨[5, 6], [1004]⟩, ⟨[], [4]⟩, ⟨[7, 8], [1005]⟩, ⟨[], [5]⟩, ⟨[9, 10], [1006]⟩, ⟨[], [6]⟩, ⟨[11, 12], [1007]⟩, ⟨[], [7]⟩, ⟨[13, 14], [1008]⟩], [7, 8, 0, 14, 15, 15], 3⟩ : Gr.GS)) 2 1 0 1 0 (wf5 (by omega) (by omega) (by omega) (by omega) (by omega)) (by decide) H64.out 0 rfl).mono ?_
  rintro e65 w65 ⟨rfl, h65⟩
  replace h65 : SepO w (fun _ => False) w65 [Hgg hb kc c (⟨[⟨[], [0]⟩, ⟨[], [1]⟩, ⟨[1, 2], [1002]⟩, ⟨[], [2]⟩, ⟨[3, 4], [1003]⟩, ⟨[], [3]⟩, ⟨[5, 6], [1004]⟩, ⟨[], [4]⟩, ⟨[7, 8], [1005]⟩, ⟨[], [5]⟩, ⟨[9, 10], [1006]⟩, ⟨[], [6]⟩, ⟨[11, 12], [1007]⟩, ⟨[], [7]⟩, ⟨[13, 14], [1008]⟩], [7, 6, 0, 14, 15, 15], 3⟩ : Gr.GS), blkP z64 33 #[i6 0, .bool false, i6 0, .int .u64 1004]] := h65
  rw [show (Gr.gdo (⟨[⟨[], [0]⟩, ⟨[], [1]⟩, ⟨[1, 2], [1002]⟩, ⟨[], [2]⟩, ⟨[3, 4], [1003]⟩, ⟨[], [3]⟩, ⟨[5, 6], [1004]⟩, ⟨[], [4]⟩, ⟨[7, 8], [1005]⟩, ⟨[], [5]⟩, ⟨[9, 10], [1006]⟩, ⟨[], [6]⟩, ⟨[11, 12], [1007]⟩, ⟨[], [7]⟩, ⟨[13, 14], [1008]⟩], [7, 8, 0, 14, 15, 15], 3⟩ : Gr.GS) ⟨2, 1, 0, 1, 0⟩).1 = (⟨0, false, 0, 0⟩ : Gr.GA) from rfl]
  simp only [toAn]
  have H65 := Lib.hid h65
  clear h65 H64
  go_wp2_with fail
  refine (do_g (c := c) (kc := kc) (G := (⟨[⟨[], [0]⟩, ⟨[], [1]⟩, ⟨[1, 2], [1002]⟩, ⟨[], [2]⟩, ⟨[3, 4], [1003]⟩, ⟨[], [3]⟩, ⟨[5, 6], [1004]⟩, ⟨[], [4]⟩, ⟨[7, 8], [1005]⟩, ⟨[], [5]⟩, ⟨[9, 10], [1006]⟩, ⟨[], [6]⟩, ⟨[11, 12], [1007]⟩, ⟨[], [7]⟩, ⟨[13, 14], [1008]⟩], [7, 6, 0, 14, 15, 15], 3⟩ : Gr.GS)) 4 1 0 0 0 (wf5 (by omega) (by omega) (by omega) (by omega) (by omega)) (by decide) H65.out 0 rfl).mono ?_
  rintro e66 w66 ⟨rfl, h66⟩
  replace h66 : SepO w (fun _ => False) w66 [Hgg hb kc c (⟨[⟨[], [0]⟩, ⟨[], [1]⟩, ⟨[1, 2], [1002]⟩, ⟨[], [2]⟩, ⟨[3, 4], [1003]⟩, ⟨[], [3]⟩, ⟨[5, 6], [1004]⟩, ⟨[], [4]⟩, ⟨[7, 8], [1005]⟩, ⟨[], [5]⟩, ⟨[9, 10], [1006]⟩, ⟨[], [6]⟩, ⟨[11, 12], [1007]⟩, ⟨[], [7]⟩, ⟨[13, 14], [1008]⟩], [7, 6, 0, 14, 15, 15], 3⟩ : Gr.GS), blkP z64 33 #[i6 0, .bool false, i6 0, .int .u64 1004]] := h66
  rw [show (Gr.gdo (⟨[⟨[], [0]⟩, ⟨[], [1]⟩, ⟨[1, 2], [1002]⟩, ⟨[], [2]⟩, ⟨[3, 4], [1003]⟩, ⟨[], [3]⟩, ⟨[5, 6], [1004]⟩, ⟨[], [4]⟩, ⟨[7, 8], [1005]⟩, ⟨[], [5]⟩, ⟨[9, 10], [1006]⟩, ⟨[], [6]⟩, ⟨[11, 12], [1007]⟩, ⟨[], [7]⟩, ⟨[13, 14], [1008]⟩], [7, 6, 0, 14, 15, 15], 3⟩ : Gr.GS) ⟨4, 1, 0, 0, 0⟩).1 = (⟨0, false, 0, 3⟩ : Gr.GA) from rfl]
  simp only [toAn]
  have h66 := h66.new_blk 33 #[i6 0, .bool false, i6 0, .int .u64 3]
  obtain ⟨z66, hz66⟩ : ∃ z, w66.heap.size = z := ⟨_, rfl⟩
  rw [hz66] at h66
  have H66 := Lib.hid h66
  clear h66 H65
  have bb0 := H66.out.blk (g := z64) (t := 33) (cs := #[i6 0, .bool false, i6 0, .int .u64 1004]) 1 rfl
  have c0_0 := bb0.cell 0
  have c0_1 := bb0.cell 1
  have c0_2 := bb0.cell 2
  have c0_3 := bb0.cell 3
  have cl0 := bb0.lt
  have bb1 := H66.out.blk (g := z66) (t := 33) (cs := #[i6 0, .bool false, i6 0, .int .u64 3]) 2 rfl
  have c1_0 := bb1.cell 0
  have c1_1 := bb1.cell 1
  have c1_2 := bb1.cell 2
  have c1_3 := bb1.cell 3
  have cl1 := bb1.lt
  simp at c0_0 c0_1 c0_2 c0_3 c1_0 c1_1 c1_2 c1_3
  clear bb0 bb1
  go_wp2_with fail
  refine (do_g (c := c) (kc := kc) (G := (⟨[⟨[], [0]⟩, ⟨[], [1]⟩, ⟨[1, 2], [1002]⟩, ⟨[], [2]⟩, ⟨[3, 4], [1003]⟩, ⟨[], [3]⟩, ⟨[5, 6], [1004]⟩, ⟨[], [4]⟩, ⟨[7, 8], [1005]⟩, ⟨[], [5]⟩, ⟨[9, 10], [1006]⟩, ⟨[], [6]⟩, ⟨[11, 12], [1007]⟩, ⟨[], [7]⟩, ⟨[13, 14], [1008]⟩], [7, 6, 0, 14, 15, 15], 3⟩ : Gr.GS)) 2 0 0 0 0 (wf5 (by omega) (by omega) (by omega) (by omega) (by omega)) (by decide) H66.out 0 rfl).mono ?_
  rintro e67 w67 ⟨rfl, h67⟩
  replace h67 : SepO w (fun _ => False) w67 [Hgg hb kc c (⟨[⟨[], [0]⟩, ⟨[], [1]⟩, ⟨[1, 2], [1002]⟩, ⟨[], [2]⟩, ⟨[3, 4], [1003]⟩, ⟨[], [3]⟩, ⟨[5, 6], [1004]⟩, ⟨[], [4]⟩, ⟨[7, 8], [1005]⟩, ⟨[], [5]⟩, ⟨[9, 10], [1006]⟩, ⟨[], [6]⟩, ⟨[11, 12], [1007]⟩, ⟨[], [7]⟩, ⟨[13, 14], [1008]⟩], [5, 6, 0, 14, 15, 15], 3⟩ : Gr.GS), blkP z64 33 #[i6 0, .bool false, i6 0, .int .u64 1004], blkP z66 33 #[i6 0, .bool false, i6 0, .int .u64 3]] := h67
  rw [show (Gr.gdo (⟨[⟨[], [0]⟩, ⟨[], [1]⟩, ⟨[1, 2], [1002]⟩, ⟨[], [2]⟩, ⟨[3, 4], [1003]⟩, ⟨[], [3]⟩, ⟨[5, 6], [1004]⟩, ⟨[], [4]⟩, ⟨[7, 8], [1005]⟩, ⟨[], [5]⟩, ⟨[9, 10], [1006]⟩, ⟨[], [6]⟩, ⟨[11, 12], [1007]⟩, ⟨[], [7]⟩, ⟨[13, 14], [1008]⟩], [7, 6, 0, 14, 15, 15], 3⟩ : Gr.GS) ⟨2, 0, 0, 0, 0⟩).1 = (⟨0, false, 0, 0⟩ : Gr.GA) from rfl]
  simp only [toAn]
  have H67 := Lib.hid h67
  clear h67 H66
  have H98 := Lib.hid (H67.out.first (l := [_]) (m := [_, _]))
  clear H67
  have H67 := H98
  clear H98
  go_wp2_with fail
  rw [rounds_succ]
  as_aux_lemma =>
  go_wp2_with fail
  refine (stir_g (c := c) (kc := kc) (G := (⟨[⟨[], [0]⟩, ⟨[], [1]⟩, ⟨[1, 2], [1002]⟩, ⟨[], [2]⟩, ⟨[3, 4], [1003]⟩, ⟨[], [3]⟩, ⟨[5, 6], [1004]⟩, ⟨[], [4]⟩, ⟨[7, 8], [1005]⟩, ⟨[], [5]⟩, ⟨[9, 10], [1006]⟩, ⟨[], [6]⟩, ⟨[11, 12], [1007]⟩, ⟨[], [7]⟩, ⟨[13, 14], [1008]⟩], [5, 6, 0, 14, 15, 15], 3⟩ : Gr.GS)) (2) (by omega) (HV.out.keep H67.out.keep0 (fun _ _ h => h)) HU.out H67.out 0 rfl).mono ?_
  rintro e68 w68 ⟨rfl, h68⟩
  have H68 := Lib.hid h68
  clear h68 H67
  go_wp2_with fail
  refine (do_g (c := c) (kc := kc) (G := (⟨[⟨[], [0]⟩, ⟨[], [1]⟩, ⟨[1, 2], [1002]⟩, ⟨[], [2]⟩, ⟨[3, 4], [1003]⟩, ⟨[], [3]⟩, ⟨[5, 6], [1004]⟩, ⟨[], [4]⟩, ⟨[7, 8], [1005]⟩, ⟨[], [5]⟩, ⟨[9, 10], [1006]⟩, ⟨[], [6]⟩, ⟨[11, 12], [1007]⟩, ⟨[], [7]⟩, ⟨[13, 14], [1008]⟩], [5, 6, 0, 14, 15, 15], 3⟩ : Gr.GS)) 4 0 0 0 0 (wf5 (by omega) (by omega) (by omega) (by omega) (by omega)) (by decide) H68.out 0 rfl).mono ?_
  rintro e69 w69 ⟨rfl, h69⟩
  replace h69 : SepO w (fun _ => False) w69 [Hgg hb kc c (⟨[⟨[], [0]⟩, ⟨[], [1]⟩, ⟨[1, 2], [1002]⟩, ⟨[], [2]⟩, ⟨[3, 4], [1003]⟩, ⟨[], [3]⟩, ⟨[5, 6], [1004]⟩, ⟨[], [4]⟩, ⟨[7, 8], [1005]⟩, ⟨[], [5]⟩, ⟨[9, 10], [1006]⟩, ⟨[], [6]⟩, ⟨[11, 12], [1007]⟩, ⟨[], [7]⟩, ⟨[13, 14], [1008]⟩], [5, 6, 0, 14, 15, 15], 3⟩ : Gr.GS)] := h69
  rw [show (Gr.gdo (⟨[⟨[], [0]⟩, ⟨[], [1]⟩, ⟨[1, 2], [1002]⟩, ⟨[], [2]⟩, ⟨[3, 4], [1003]⟩, ⟨[], [3]⟩, ⟨[5, 6], [1004]⟩, ⟨[], [4]⟩, ⟨[7, 8], [1005]⟩, ⟨[], [5]⟩, ⟨[9, 10], [1006]⟩, ⟨[], [6]⟩, ⟨[11, 12], [1007]⟩, ⟨[], [7]⟩, ⟨[13, 14], [1008]⟩], [5, 6, 0, 14, 15, 15], 3⟩ : Gr.GS) ⟨4, 0, 0, 0, 0⟩).1 = (⟨0, false, 0, 1003⟩ : Gr.GA) from rfl]
  simp only [toAn]
  have h69 := h69.new_blk 33 #[i6 0, .bool false, i6 0, .int .u64 1003]
  obtain ⟨z69, hz69⟩ : ∃ z, w69.heap.size = z := ⟨_, rfl⟩
  rw [hz69] at h69
  have H69 := Lib.hid h69
  clear h69 H68
  have bb0 := H69.out.blk (g := z69) (t := 33) (cs := #[i6 0, .bool false, i6 0, .int .u64 1003]) 1 rfl
  have c0_0 := bb0.cell 0
  have c0_1 := bb0.cell 1
  have c0_2 := bb0.cell 2
  have c0_3 := bb0.cell 3
  have cl0 := bb0.lt
  simp at c0_0 c0_1 c0_2 c0_3
  clear bb0
  go_wp2_with fail
  refine (do_g (c := c) (kc := kc) (G := (⟨[⟨[], [0]⟩, ⟨[], [1]⟩, ⟨[1, 2], [1002]⟩, ⟨[], [2]⟩, ⟨[3, 4], [1003]⟩, ⟨[], [3]⟩, ⟨[5, 6], [1004]⟩, ⟨[], [4]⟩, ⟨[7, 8], [1005]⟩, ⟨[], [5]⟩, ⟨[9, 10], [1006]⟩, ⟨[], [6]⟩, ⟨[11, 12], [1007]⟩, ⟨[], [7]⟩, ⟨[13, 14], [1008]⟩], [5, 6, 0, 14, 15, 15], 3⟩ : Gr.GS)) 2 1 0 1 0 (wf5 (by omega) (by omega) (by omega) (by omega) (by omega)) (by decide) H69.out 0 rfl).mono ?_
  rintro e70 w70 ⟨rfl, h70⟩
  replace h70 : SepO w (fun _ => False) w70 [Hgg hb kc c (⟨[⟨[], [0]⟩, ⟨[], [1]⟩, ⟨[1, 2], [1002]⟩, ⟨[], [2]⟩, ⟨[3, 4], [1003]⟩, ⟨[], [3]⟩, ⟨[5, 6], [1004]⟩, ⟨[], [4]⟩, ⟨[7, 8], [1005]⟩, ⟨[], [5]⟩, ⟨[9, 10], [1006]⟩, ⟨[], [6]⟩, ⟨[11, 12], [1007]⟩, ⟨[], [7]⟩, ⟨[13, 14], [1008]⟩], [5, 4, 0, 14, 15, 15], 3⟩ : Gr.GS), blkP z69 33 #[i6 0, .bool false, i6 0, .int .u64 1003]] := h70
  rw [show (Gr.gdo (⟨[⟨[], [0]⟩, ⟨[], [1]⟩, ⟨[1, 2], [1002]⟩, ⟨[], [2]⟩, ⟨[3, 4], [1003]⟩, ⟨[], [3]⟩, ⟨[5, 6], [1004]⟩, ⟨[], [4]⟩, ⟨[7, 8], [1005]⟩, ⟨[], [5]⟩, ⟨[9, 10], [1006]⟩, ⟨[], [6]⟩, ⟨[11, 12], [1007]⟩, ⟨[], [7]⟩, ⟨[13, 14], [1008]⟩], [5, 6, 0, 14, 15, 15], 3⟩ : Gr.GS) ⟨2, 1, 0, 1, 0⟩).1 = (⟨0, false, 0, 0⟩ : Gr.GA) from rfl]
  simp only [toAn]
  have H70 := Lib.hid h70
  clear h70 H69
  go_wp2_with fail
  refine (do_g (c := c) (kc := kc) (G := (⟨[⟨[], [0]⟩, ⟨[], [1]⟩, ⟨[1, 2], [1002]⟩, ⟨[], [2]⟩, ⟨[3, 4], [1003]⟩, ⟨[], [3]⟩, ⟨[5, 6], [1004]⟩, ⟨[], [4]⟩, ⟨[7, 8], [1005]⟩, ⟨[], [5]⟩, ⟨[9, 10], [1006]⟩, ⟨[], [6]⟩, ⟨[11, 12], [1007]⟩, ⟨[], [7]⟩, ⟨[13, 14], [1008]⟩], [5, 4, 0, 14, 15, 15], 3⟩ : Gr.GS)) 4 1 0 0 0 (wf5 (by omega) (by omega) (by omega) (by omega) (by omega)) (by decide) H70.out 0 rfl).mono ?_
  rintro e71 w71 ⟨rfl, h71⟩
  replace h71 : SepO w (fun _ => False) w71 [Hgg hb kc c (⟨[⟨[], [0]⟩, ⟨[], [1]⟩, ⟨[1, 2], [1002]⟩, ⟨[], [2]⟩, ⟨[3, 4], [1003]⟩, ⟨[], [3]⟩, ⟨[5, 6], [1004]⟩, ⟨[], [4]⟩, ⟨[7, 8], [1005]⟩, ⟨[], [5]⟩, ⟨[9, 10], [1006]⟩, ⟨[], [6]⟩, ⟨[11, 12], [1007]⟩, ⟨[], [7]⟩, ⟨[13, 14], [1008]⟩], [5, 4, 0, 14, 15, 15], 3⟩ : Gr.GS), blkP z69 33 #[i6 0, .bool false, i6 0, .int .u64 1003]] := h71
  rw [show (Gr.gdo (⟨[⟨[], [0]⟩, ⟨[], [1]⟩, ⟨[1, 2], [1002]⟩, ⟨[], [2]⟩, ⟨[3, 4], [1003]⟩, ⟨[], [3]⟩, ⟨[5, 6], [1004]⟩, ⟨[], [4]⟩, ⟨[7, 8], [1005]⟩, ⟨[], [5]⟩, ⟨[9, 10], [1006]⟩, ⟨[], [6]⟩, ⟨[11, 12], [1007]⟩, ⟨[], [7]⟩, ⟨[13, 14], [1008]⟩], [5, 4, 0, 14, 15, 15], 3⟩ : Gr.GS) ⟨4, 1, 0, 0, 0⟩).1 = (⟨0, false, 0, 2⟩ : Gr.GA) from rfl]
  simp only [toAn]
  have h71 := h71.new_blk 33 #[i6 0, .bool false, i6 0, .int .u64 2]
  obtain ⟨z71, hz71⟩ : ∃ z, w71.heap.size = z := ⟨_, rfl⟩
  rw [hz71] at h71
  have H71 := Lib.hid h71
  clear h71 H70
  have bb0 := H71.out.blk (g := z69) (t := 33) (cs := #[i6 0, .bool false, i6 0, .int .u64 1003]) 1 rfl
  have c0_0 := bb0.cell 0
  have c0_1 := bb0.cell 1
  have c0_2 := bb0.cell 2
  have c0_3 := bb0.cell 3
  have cl0 := bb0.lt
  have bb1 := H71.out.blk (g := z71) (t := 33) (cs := #[i6 0, .bool false, i6 0, .int .u64 2]) 2 rfl
  have c1_0 := bb1.cell 0
  have c1_1 := bb1.cell 1
  have c1_2 := bb1.cell 2
  have c1_3 := bb1.cell 3
  have cl1 := bb1.lt
  simp at c0_0 c0_1 c0_2 c0_3 c1_0 c1_1 c1_2 c1_3
  clear bb0 bb1
  go_wp2_with fail
  refine (do_g (c := c) (kc := kc) (G := (⟨[⟨[], [0]⟩, ⟨[], [1]⟩, ⟨[1, 2], [1002]⟩, ⟨[], [2]⟩, ⟨[3, 4], [1003]⟩, ⟨[], [3]⟩, ⟨[5, 6], [1004]⟩, ⟨[], [4]⟩, ⟨[7, 8], [1005]⟩, ⟨[], [5]⟩, ⟨[9, 10], [1006]⟩, ⟨[], [6]⟩, ⟨[11, 12], [1007]⟩, ⟨[], [7]⟩, ⟨[13, 14], [1008]⟩], [5, 4, 0, 14, 15, 15], 3⟩ : Gr.GS)) 2 0 0 0 0 (wf5 (by omega) (by omega) (by omega) (by omega) (by omega)) (by decide) H71.out 0 rfl).mono ?_
  rintro e72 w72 ⟨rfl, h72⟩
  replace h72 : SepO w (fun _ => False) w72 [Hgg hb kc c (⟨[⟨[], [0]⟩, ⟨[], [1]⟩, ⟨[1, 2], [1002]⟩, ⟨[], [2]⟩, ⟨[3, 4], [1003]⟩, ⟨[], [3]⟩, ⟨[5, 6], [1004]⟩, ⟨[], [4]⟩, ⟨[7, 8], [1005]⟩, ⟨[], [5]⟩, ⟨[9, 10], [1006]⟩, ⟨[], [6]⟩, ⟨[11, 12], [1007]⟩, ⟨[], [7]⟩, ⟨[13, 14], [1008]⟩], [3, 4, 0, 14, 15, 15], 3⟩ : Gr.GS), blkP z69 33 #[i6 0, .bool false, i6 0, .int .u64 1003], blkP z71 33 #[i6 0, .bool false, i6 0, .int .u64 2]] := h72
  rw [show (Gr.gdo (⟨[⟨[], [0]⟩, ⟨[], [1]⟩, ⟨[1, 2], [1002]⟩, ⟨[], [2]⟩, ⟨[3, 4], [1003]⟩, ⟨[], [3]⟩, ⟨[5, 6], [1004]⟩, ⟨[], [4]⟩, ⟨[7, 8], [1005]⟩, ⟨[], [5]⟩, ⟨[9, 10], [1006]⟩, ⟨[], [6]⟩, ⟨[11, 12], [1007]⟩, ⟨[], [7]⟩, ⟨[13, 14], [1008]⟩], [5, 4, 0, 14, 15, 15], 3⟩ : Gr.GS) ⟨2, 0, 0, 0, 0⟩).1 = (⟨0, false, 0, 0⟩ : Gr.GA) from rfl]
  simp only [toAn]
  have H72 := Lib.hid h72
  clear h72 H71
  have H98 := Lib.hid (H72.out.first (l := [_]) (m := [_, _]))
  clear H72
  have H72 := H98
  clear H98
  go_wp2_with fail
  rw [rounds_succ]
  as_aux_lemma =>
  go_wp2_with fail
  refine (stir_g (c := c) (kc := kc) (G := (⟨[⟨[], [0]⟩, ⟨[], [1]⟩, ⟨[1, 2], [1002]⟩, ⟨[], [2]⟩, ⟨[3, 4], [1003]⟩, ⟨[], [3]⟩, ⟨[5, 6], [1004]⟩, ⟨[], [4]⟩, ⟨[7, 8], [1005]⟩, ⟨[], [5]⟩, ⟨[9, 10], [1006]⟩, ⟨[], [6]⟩, ⟨[11, 12], [1007]⟩, ⟨[], [7]⟩, ⟨[13, 14], [1008]⟩], [3, 4, 0, 14, 15, 15], 3⟩ : Gr.GS)) (1) (by omega) (HV.out.keep H72.out.keep0 (fun _ _ h => h)) HU.out H72.out 0 rfl).mono ?_
  rintro e73 w73 ⟨rfl, h73⟩
  have H73 := Lib.hid h73
  clear h73 H72
  go_wp2_with fail
  refine (do_g (c := c) (kc := kc) (G := (⟨[⟨[], [0]⟩, ⟨[], [1]⟩, ⟨[1, 2], [1002]⟩, ⟨[], [2]⟩, ⟨[3, 4], [1003]⟩, ⟨[], [3]⟩, ⟨[5, 6], [1004]⟩, ⟨[], [4]⟩, ⟨[7, 8], [1005]⟩, ⟨[], [5]⟩, ⟨[9, 10], [1006]⟩, ⟨[], [6]⟩, ⟨[11, 12], [1007]⟩, ⟨[], [7]⟩, ⟨[13, 14], [1008]⟩], [3, 4, 0, 14, 15, 15], 3⟩ : Gr.GS)) 4 0 0 0 0 (wf5 (by omega) (by omega) (by omega) (by omega) (by omega)) (by decide) H73.out 0 rfl).mono ?_
  rintro e74 w74 ⟨rfl, h74⟩
  replace h74 : SepO w (fun _ => False) w74 [Hgg hb kc c (⟨[⟨[], [0]⟩, ⟨[], [1]⟩, ⟨[1, 2], [1002]⟩, ⟨[], [2]⟩, ⟨[3, 4], [1003]⟩, ⟨[], [3]⟩, ⟨[5, 6], [1004]⟩, ⟨[], [4]⟩, ⟨[7, 8], [1005]⟩, ⟨[], [5]⟩, ⟨[9, 10], [1006]⟩, ⟨[], [6]⟩, ⟨[11, 12], [1007]⟩, ⟨[], [7]⟩, ⟨[13, 14], [1008]⟩], [3, 4, 0, 14, 15, 15], 3⟩ : Gr.GS)] := h74
  rw [show (Gr.gdo (⟨[⟨[], [0]⟩, ⟨[], [1]⟩, ⟨[1, 2], [1002]⟩, ⟨[], [2]⟩, ⟨[3, 4], [1003]⟩, ⟨[], [3]⟩, ⟨[5, 6], [1004]⟩, ⟨[], [4]⟩, ⟨[7, 8], [1005]⟩, ⟨[], [5]⟩, ⟨[9, 10], [1006]⟩, ⟨[], [6]⟩, ⟨[11, 12], [1007]⟩, ⟨[], [7]⟩, ⟨[13, 14], [1008]⟩], [3, 4, 0, 14, 15, 15], 3⟩ : Gr.GS) ⟨4, 0, 0, 0, 0⟩).1 = (⟨0, false, 0, 1002⟩ : Gr.GA) from rfl]
  simp only [toAn]
  have h74 := h74.new_blk 33 #[i6 0, .bool false, i6 0, .int .u64 1002]
  obtain ⟨z74, hz74⟩ : ∃ z, w74.heap.size = z := ⟨_, rfl⟩
  rw [hz74] at h74
  have H74 := Lib.hid h74
  clear h74 H73
  have bb0 := H74.out.blk (g := z74) (t := 33) (cs := #[i6 0, .bool false, i6 0, .int .u64 1002]) 1 rfl
  have c0_0 := bb0.cell 0
  have c0_1 := bb0.cell 1
  have c0_2 := bb0.cell 2
  have c0_3 := bb0.cell 3
  have cl0 := bb0.lt
  simp at c0_0 c0_1 c0_2 c0_3
  clear bb0
  go_wp2_with fail
  refine (do_g (c := c) (kc := kc) (G := (⟨[⟨[], [0]⟩, ⟨[], [1]⟩, ⟨[1, 2], [1002]⟩, ⟨[], [2]⟩, ⟨[3, 4], [1003]⟩, ⟨[], [3]⟩, ⟨[5, 6], [1004]⟩, ⟨[], [4]⟩, ⟨[7, 8], [1005]⟩, ⟨[], [5]⟩, ⟨[9, 10], [1006]⟩, ⟨[], [6]⟩, ⟨[11, 12], [1007]⟩, ⟨[], [7]⟩, ⟨[13, 14], [1008]⟩], [3, 4, 0, 14, 15, 15], 3⟩ : Gr.GS)) 2 1 0 1 0 (wf5 (by omega) (by omega) (by omega) (by omega) (by omega)) (by decide) H74.out 0 rfl).mono ?_
  rintro e75 w75 ⟨rfl, h75⟩
  replace h75 : SepO w (fun _ => False) w75 [Hgg hb kc c (⟨[⟨[], [0]⟩, ⟨[], [1]⟩, ⟨[1, 2], [1002]⟩, ⟨[], [2]⟩, ⟨[3, 4], [1003]⟩, ⟨[], [3]⟩, ⟨[5, 6], [1004]⟩, ⟨[], [4]⟩, ⟨[7, 8], [1005]⟩, ⟨[], [5]⟩, ⟨[9, 10], [1006]⟩, ⟨[], [6]⟩, ⟨[11, 12], [1007]⟩, ⟨[], [7]⟩, ⟨[13, 14], [1008]⟩], [3, 2, 0, 14, 15, 15], 3⟩ : Gr.GS), blkP z74 33 #[i6 0, .bool false, i6 0, .int .u64 1002]] := h75
  rw [show (Gr.gdo (⟨[⟨[], [0]⟩, ⟨[], [1]⟩, ⟨[1, 2], [1002]⟩, ⟨[], [2]⟩, ⟨[3, 4], [1003]⟩, ⟨[], [3]⟩, ⟨[5, 6], [1004]⟩, ⟨[], [4]⟩, ⟨[7, 8], [1005]⟩, ⟨[], [5]⟩, ⟨[9, 10], [1006]⟩, ⟨[], [6]⟩, ⟨[11, 12], [1007]⟩, ⟨[], [7]⟩, ⟨[13, 14], [1008]⟩], [3, 4, 0, 14, 15, 15], 3⟩ : Gr.GS) ⟨2, 1, 0, 1, 0⟩).1 = (⟨0, false, 0, 0⟩ : Gr.GA) from rfl]
  simp only [toAn]
  have H75 := Lib.hid h75
  clear h75 H74
  go_wp2_with fail
  refine (do_g (c := c) (kc := kc) (G := (⟨[⟨[], [0]⟩, ⟨[], [1]⟩, ⟨[1, 2], [1002]⟩, ⟨[], [2]⟩, ⟨[3, 4], [1003]⟩, ⟨[], [3]⟩, ⟨[5, 6], [1004]⟩, ⟨[], [4]⟩, ⟨[7, 8], [1005]⟩, ⟨[], [5]⟩, ⟨[9, 10], [1006]⟩, ⟨[], [6]⟩, ⟨[11, 12], [1007]⟩, ⟨[], [7]⟩, ⟨[13, 14], [1008]⟩], [3, 2, 0, 14, 15, 15], 3⟩ : Gr.GS)) 4 1 0 0 0 (wf5 (by omega) (by omega) (by omega) (by omega) (by omega)) (by decide) H75.out 0 rfl).mono ?_
  rintro e76 w76 ⟨rfl, h76⟩
  replace h76 : SepO w (fun _ => False) w76 [Hgg hb kc c (⟨[⟨[], [0]⟩, ⟨[], [1]⟩, ⟨[1, 2], [1002]⟩, ⟨[], [2]⟩, ⟨[3, 4], [1003]⟩, ⟨[], [3]⟩, ⟨[5, 6], [1004]⟩, ⟨[], [4]⟩, ⟨[7, 8], [1005]⟩, ⟨[], [5]⟩, ⟨[9, 10], [1006]⟩, ⟨[], [6]⟩, ⟨[11, 12], [1007]⟩, ⟨[], [7]⟩, ⟨[13, 14], [1008]⟩], [3, 2, 0, 14, 15, 15], 3⟩ : Gr.GS), blkP z74 33 #[i6 0, .bool false, i6 0, .int .u64 1002]] := h76
  rw [show (Gr.gdo (⟨[⟨[], [0]⟩, ⟨[], [1]⟩, ⟨[1, 2], [1002]⟩, ⟨[], [2]⟩, ⟨[3, 4], [1003]⟩, ⟨[], [3]⟩, ⟨[5, 6], [1004]⟩, ⟨[], [4]⟩, ⟨[7, 8], [1005]⟩, ⟨[], [5]⟩, ⟨[9, 10], [1006]⟩, ⟨[], [6]⟩, ⟨[11, 12], [1007]⟩, ⟨[], [7]⟩, ⟨[13, 14], [1008]⟩], [3, 2, 0, 14, 15, 15], 3⟩ : Gr.GS) ⟨4, 1, 0, 0, 0⟩).1 = (⟨0, false, 0, 1⟩ : Gr.GA) from rfl]
  simp only [toAn]
  have h76 := h76.new_blk 33 #[i6 0, .bool false, i6 0, .int .u64 1]
  obtain ⟨z76, hz76⟩ : ∃ z, w76.heap.size = z := ⟨_, rfl⟩
  rw [hz76] at h76
  have H76 := Lib.hid h76
  clear h76 H75
  have bb0 := H76.out.blk (g := z74) (t := 33) (cs := #[i6 0, .bool false, i6 0, .int .u64 1002]) 1 rfl
  have c0_0 := bb0.cell 0
  have c0_1 := bb0.cell 1
  have c0_2 := bb0.cell 2
  have c0_3 := bb0.cell 3
  have cl0 := bb0.lt
  have bb1 := H76.out.blk (g := z76) (t := 33) (cs := #[i6 0, .bool false, i6 0, .int .u64 1]) 2 rfl
  have c1_0 := bb1.cell 0
  have c1_1 := bb1.cell 1
  have c1_2 := bb1.cell 2
  have c1_3 := bb1.cell 3
  have cl1 := bb1.lt
  simp at c0_0 c0_1 c0_2 c0_3 c1_0 c1_1 c1_2 c1_3
  clear bb0 bb1
  go_wp2_with fail
  refine (do_g (c := c) (kc := kc) (G := (⟨[⟨[], [0]⟩, ⟨[], [1]⟩, ⟨[1, 2], [1002]⟩, ⟨[], [2]⟩, ⟨[3, 4], [1003]⟩, ⟨[], [3]⟩, ⟨[5, 6], [1004]⟩, ⟨[], [4]⟩, ⟨[7, 8], [1005]⟩, ⟨[], [5]⟩, ⟨[9, 10], [1006]⟩, ⟨[], [6]⟩, ⟨[11, 12], [1007]⟩, ⟨[], [7]⟩, ⟨[13, 14], [1008]⟩], [3, 2, 0, 14, 15, 15], 3⟩ : Gr.GS)) 2 0 0 0 0 (wf5 (by omega) (by omega) (by omega) (by omega) (by omega)) (by decide) H76.out 0 rfl).mono ?_
  rintro e77 w77 ⟨rfl, h77⟩
  replace h77 : SepO w (fun _ => False) w77 [Hgg hb kc c (⟨[⟨[], [0]⟩, ⟨[], [1]⟩, ⟨[1, 2], [1002]⟩, ⟨[], [2]⟩, ⟨[3, 4], [1003]⟩, ⟨[], [3]⟩, ⟨[5, 6], [1004]⟩, ⟨[], [4]⟩, ⟨[7, 8], [1005]⟩, ⟨[], [5]⟩, ⟨[9, 10], [1006]⟩, ⟨[], [6]⟩, ⟨[11, 12], [1007]⟩, ⟨[], [7]⟩, ⟨[13, 14], [1008]⟩], [1, 2, 0, 14, 15, 15], 3⟩ : Gr.GS), blkP z74 33 #[i6 0, .bool false, i6 0, .int .u64 1002], blkP z76 33 #[i6 0, .bool false, i6 0, .int .u64 1]] := h77
  rw [show (Gr.gdo (⟨[⟨[], [0]⟩, ⟨[], [1]⟩, ⟨[1, 2], [1002]⟩, ⟨[], [2]⟩, ⟨[3, 4], [1003]⟩, ⟨[], [3]⟩, ⟨[5, 6], [1004]⟩, ⟨[], [4]⟩, ⟨[7, 8], [1005]⟩, ⟨[], [5]⟩, ⟨[9, 10], [1006]⟩, ⟨[], [6]⟩, ⟨[11, 12], [1007]⟩, ⟨[], [7]⟩, ⟨[13, 14], [1008]⟩], [3, 2, 0, 14, 15, 15], 3⟩ : Gr.GS) ⟨2, 0, 0, 0, 0⟩).1 = (⟨0, false, 0, 0⟩ : Gr.GA) from rfl]
  simp only [toAn]
  have H77 := Lib.hid h77
  clear h77 H76
  have H98 := Lib.hid (H77.out.first (l := [_]) (m := [_, _]))
  clear H77
  have H77 := H98
  clear H98
  go_wp2_with fail
  rw [rounds_succ]
  as_aux_lemma =>
  go_wp2_with fail
  refine (stir_g (c := c) (kc := kc) (G := (⟨[⟨[], [0]⟩, ⟨[], [1]⟩, ⟨[1, 2], [1002]⟩, ⟨[], [2]⟩, ⟨[3, 4], [1003]⟩, ⟨[], [3]⟩, ⟨[5, 6], [1004]⟩, ⟨[], [4]⟩, ⟨[7, 8], [1005]⟩, ⟨[], [5]⟩, ⟨[9, 10], [1006]⟩, ⟨[], [6]⟩, ⟨[11, 12], [1007]⟩, ⟨[], [7]⟩, ⟨[13, 14], [1008]⟩], [1, 2, 0, 14, 15, 15], 3⟩ : Gr.GS)) (0) (by omega) (HV.out.keep H77.out.keep0 (fun _ _ h => h)) HU.out H77.out 0 rfl).mono ?_
  rintro e78 w78 ⟨rfl, h78⟩
  have H78 := Lib.hid h78
  clear h78 H77
  go_wp2_with fail
  refine (do_g (c := c) (kc := kc) (G := (⟨[⟨[], [0]⟩, ⟨[], [1]⟩, ⟨[1, 2], [1002]⟩, ⟨[], [2]⟩, ⟨[3, 4], [1003]⟩, ⟨[], [3]⟩, ⟨[5, 6], [1004]⟩, ⟨[], [4]⟩, ⟨[7, 8], [1005]⟩, ⟨[], [5]⟩, ⟨[9, 10], [1006]⟩, ⟨[], [6]⟩, ⟨[11, 12], [1007]⟩, ⟨[], [7]⟩, ⟨[13, 14], [1008]⟩], [1, 2, 0, 14, 15, 15], 3⟩ : Gr.GS)) 4 0 0 0 0 (wf5 (by omega) (by omega) (by omega) (by omega) (by omega)) (by decide) H78.out 0 rfl).mono ?_
  rintro e79 w79 ⟨rfl, h79⟩
  replace h79 : SepO w (fun _ => False) w79 [Hgg hb kc c (⟨[⟨[], [0]⟩, ⟨[], [1]⟩, ⟨[1, 2], [1002]⟩, ⟨[], [2]⟩, ⟨[3, 4], [1003]⟩, ⟨[], [3]⟩, ⟨[5, 6], [1004]⟩, ⟨[], [4]⟩, ⟨[7, 8], [1005]⟩, ⟨[], [5]⟩, ⟨[9, 10], [1006]⟩, ⟨[], [6]⟩, ⟨[11, 12], [1007]⟩, ⟨[], [7]⟩, ⟨[13, 14], [1008]⟩], [1, 2, 0, 14, 15, 15], 3⟩ : Gr.GS)] := h79
  rw [show (Gr.gdo (⟨[⟨[], [0]⟩, ⟨[], [1]⟩, ⟨[1, 2], [1002]⟩, ⟨[], [2]⟩, ⟨[3, 4], [1003]⟩, ⟨[], [3]⟩, ⟨[5, 6], [1004]⟩, ⟨[], [4]⟩, ⟨[7, 8], [1005]⟩, ⟨[], [5]⟩, ⟨[9, 10], [1006]⟩, ⟨[], [6]⟩, ⟨[11, 12], [1007]⟩, ⟨[], [7]⟩, ⟨[13, 14], [1008]⟩], [1, 2, 0, 14, 15, 15], 3⟩ : Gr.GS) ⟨4, 0, 0, 0, 0⟩).1 = (⟨0, false, 0, 0⟩ : Gr.GA) from rfl]
  simp only [toAn]
  have h79 := h79.new_blk 33 #[i6 0, .bool false, i6 0, .int .u64 0]
  obtain ⟨z79, hz79⟩ : ∃ z, w79.heap.size = z := ⟨_, rfl⟩
  rw [hz79] at h79
  have H79 := Lib.hid h79
  clear h79 H78
  have bb0 := H79.out.blk (g := z79) (t := 33) (cs := #[i6 0, .bool false, i6 0, .int .u64 0]) 1 rfl
  have c0_0 := bb0.cell 0
  have c0_1 := bb0.cell 1
  have c0_2 := bb0.cell 2
  have c0_3 := bb0.cell 3
  have cl0 := bb0.lt
  simp at c0_0 c0_1 c0_2 c0_3
  clear bb0
  go_wp2_with fail
  go_ret
  exact ⟨rfl, H79.out.below⟩
end Go.Proofs.YtihmkkjmnbehbaaGreat.Wh
