/- WholeFresh as a contract. Condition: what is taken in reads as lists. -/
import Derived.Test.YtihmkkjmnbehbaaGreatMg43
import Derived.Deep.LoopGhost
/- What is made anew, as a graph: plain laws. No condition. -/
set_option linter.unusedVariables false
set_option linter.unusedSimpArgs false
namespace Go.Proofs.YtihmkkjmnbehbaaGreat.Wh
open Go.RowKit Go.Proofs.YtihmkkjmnbehbaaGreat.W
/-- Four handles, objects of four fields. -/
def D4 (G : Gr.GS) : Prop := G.hs.length = 4 ∧ G.largest = 4
theorem D4.do_ {G : Gr.GS} (h : D4 G) (x : A5) : D4 (Gr.gdo G x).2 := ⟨(Gr.gdo_len G x).1.trans h.1, (Gr.gdo_len G x).2.2.trans h.2⟩
/-- A handle holds a node of two references and two numbers. -/
def Cur (G : Gr.GS) (k : Nat) (r0 r1 : Nat) (s0 s1 : Int) : Prop := D4 G ∧ ∃ N, N ≠ 0 ∧ N ≤ G.nodes.length ∧ G.hs[k]? = some N ∧ Gr.nod G N = ⟨[r0, r1], [s0, s1]⟩
section
variable {G : Gr.GS} {k r0 r1 : Nat} {s0 s1 : Int}
theorem Cur.wrong (h : Cur G k r0 r1 s0 s1) : Gr.wrong G k = 0 ∧ Gr.nod G (Gr.held G k) = ⟨[r0, r1], [s0, s1]⟩ := by
  obtain ⟨d, N, n0, n1, h1, h2⟩ := h
  have e : Gr.held G k = N := by unfold Gr.held; rw [Int.toNat_natCast, h1]; rfl
  have hl := (List.getElem?_eq_some_iff.1 h1).1
  have hh : Gr.has G k = true := (Gr.has_iff G k).2 (by omega)
  refine ⟨?_, by rw [e]; exact h2⟩
  unfold Gr.wrong; rw [if_pos hh, e, if_neg n0]
theorem D4.has (h : D4 G) {x : Int} (h0 : 0 ≤ x) (h1 : x < 4) : Gr.has G x = true := (Gr.has_iff G x).2 ⟨h0, by rw [h.1]; omega⟩
theorem D4.make (h : D4 G) (k : Nat) (hk : k < 4) : Gr.gmake G k 2 2 = (0, (Gr.gmake G k 2 2).2) ∧ Cur (Gr.gmake G k 2 2).2 k 0 0 0 0 := by
  have e : Gr.gmake G k 2 2 = (0, { G with nodes := G.nodes ++ [⟨[0, 0], [0, 0]⟩], hs := G.hs.set k (G.nodes.length + 1) }) := by
    unfold Gr.gmake
    rw [if_pos (h.has (by omega) (by omega)), if_pos (by unfold Gr.fits; rw [h.2]; rfl)]
    rfl
  rw [e]
  refine ⟨rfl, ⟨by simp [h.1], h.2⟩, G.nodes.length + 1, by omega, by simp, ?_, ?_⟩
  · simp only []
    rw [List.getElem?_set_self (by rw [h.1]; exact hk)]
  · unfold Gr.nod; simp
theorem Cur.read (h : Cur G k r0 r1 s0 s1) (j : Nat) (hj : j < 2) : Gr.gdo G ⟨4, k, j, 0, 0⟩ = (⟨0, false, 0, if j = 0 then s0 else s1⟩, G) := by
  obtain ⟨h1, h2⟩ := h.wrong
  show (Gr.gread G k j, G) = _
  unfold Gr.gread
  rw [if_pos h1, h2]
  have : j = 0 ∨ j = 1 := by omega
  rcases this with rfl | rfl <;> rfl
theorem Cur.get (h : Cur G k r0 r1 s0 s1) (hk : k < 3) (j : Nat) (hj : j < 2) : ∃ G', Gr.gdo G ⟨2, 3, k, j, 0⟩ = (Gr.err 0, G') ∧ Cur G' k r0 r1 s0 s1 ∧ G'.hs[3]? = some (if j = 0 then r0 else r1) := by
  obtain ⟨h1, h2⟩ := h.wrong
  have d := h.1
  have e : Gr.gdo G ⟨2, 3, k, j, 0⟩ = (Gr.err 0, { G with hs := G.hs.set 3 (if j = 0 then r0 else r1) }) := by
    show Gr.ans (Gr.gget G 3 k j) = _
    unfold Gr.gget
    rw [if_pos h1, if_pos (d.has (by omega) (by omega)), h2]
    have : j = 0 ∨ j = 1 := by omega
    rcases this with rfl | rfl <;> rfl
  refine ⟨_, e, ⟨⟨by simp [d.1], d.2⟩, ?_⟩, ?_⟩
  · obtain ⟨_, N, n0, n1, h3, h4⟩ := h
    exact ⟨N, n0, n1, by simp only []; rw [List.getElem?_set_ne (by omega)]; exact h3, h4⟩
  · simp only []
    rw [List.getElem?_set_self (by rw [d.1]; omega)]
theorem nil3 (h : G.hs[3]? = some 0) : Gr.gdo G ⟨9, 3, 0, 0, 0⟩ = (⟨0, true, 0, 0⟩, G) := by
  show (Gr.gnil G 3, G) = _
  unfold Gr.gnil
  have hl := (List.getElem?_eq_some_iff.1 h).1
  rw [if_pos ((Gr.has_iff G 3).2 (by omega))]
  have : Gr.held G 3 = 0 := by unfold Gr.held; show (G.hs[3]?).getD 0 = 0; rw [h]; rfl
  rw [this]; rfl
theorem Cur.set_node (h : Cur G k r0 r1 s0 s1) (x : Gr.GN) (a0 a1 : Nat) (b0 b1 : Int) (hx : x = ⟨[a0, a1], [b0, b1]⟩) : Cur { G with nodes := Gr.setN G (Gr.held G k) x } k a0 a1 b0 b1 := by
  obtain ⟨d, N, n0, n1, h1, h2⟩ := h
  have e : Gr.held G k = N := by unfold Gr.held; rw [Int.toNat_natCast, h1]; rfl
  rw [e]
  refine ⟨d, N, n0, by simp [Gr.setN]; exact n1, h1, ?_⟩
  rw [← hx, nod_set n0 n1 x N n0, if_pos rfl]
theorem Cur.write (h : Cur G k r0 r1 s0 s1) (j : Nat) (hj : j < 2) (v : Int) : ∃ G', Gr.gdo G ⟨5, k, j, 0, v⟩ = (Gr.err 0, G') ∧ Cur G' k r0 r1 (if j = 0 then v else s0) (if j = 0 then s1 else v) := by
  obtain ⟨h1, h2⟩ := h.wrong
  have e : Gr.gdo G ⟨5, k, j, 0, v⟩ = (Gr.err 0, { G with nodes := Gr.setN G (Gr.held G k) ⟨[r0, r1], [s0, s1].set j v⟩ }) := by
    show Gr.ans (Gr.gwrite G k j v) = _
    unfold Gr.gwrite
    rw [if_pos h1, h2]
    have : j = 0 ∨ j = 1 := by omega
    rcases this with rfl | rfl <;> rfl
  refine ⟨_, e, h.set_node _ _ _ _ _ ?_⟩
  have : j = 0 ∨ j = 1 := by omega
  rcases this with rfl | rfl <;> rfl
theorem Cur.set_ (h : Cur G k r0 r1 s0 s1) (j : Nat) (hj : j < 2) (c : Int) (c0 : 0 ≤ c) (c1 : c < 4) : ∃ G', Gr.gdo G ⟨3, k, j, c, 0⟩ = (Gr.err 0, G') ∧ Cur G' k (if j = 0 then Gr.held G c else r0) (if j = 0 then r1 else Gr.held G c) s0 s1 := by
  obtain ⟨h1, h2⟩ := h.wrong
  have e : Gr.gdo G ⟨3, k, j, c, 0⟩ = (Gr.err 0, { G with nodes := Gr.setN G (Gr.held G k) ⟨[r0, r1].set j (Gr.held G c), [s0, s1]⟩ }) := by
    show Gr.ans (Gr.gset G k j c) = _
    unfold Gr.gset
    rw [if_pos h1, if_pos (h.1.has c0 c1), h2]
    have : j = 0 ∨ j = 1 := by omega
    rcases this with rfl | rfl <;> rfl
  refine ⟨_, e, h.set_node _ _ _ _ _ ?_⟩
  have : j = 0 ∨ j = 1 := by omega
  rcases this with rfl | rfl <;> rfl
end
end Go.Proofs.YtihmkkjmnbehbaaGreat.Wh
/- Fresh as a contract. Condition: what is taken in reads as lists. -/
set_option linter.unusedVariables false
set_option linter.unusedSimpArgs false
namespace Go.Proofs.YtihmkkjmnbehbaaGreat.Wh
open Go.RowKit Go.Proofs.YtihmkkjmnbehbaaGreat.W Go.Proofs.YtihmkkjmnbehbaaGreat.Sm
theorem wf5m {xa xb : Int} (h1 : 0 ≤ xa ∧ xa ≤ 4611686018427387904) (h2 : 0 ≤ xb ∧ xb ≤ 4611686018427387904) : (⟨5, xa, xb, 0, 18446744073709551615⟩ : A5).wf := by
  unfold A5.wf; simp only []; omega
set_option maxRecDepth 20000 in
set_option maxHeartbeats 8000000 in
theorem Fresh_calls (a b d e : Int) (ha : U8 a) (hb0 : U8 b) (hd : U8 d) (he : U8 e) (r : Int) (hr : U8 r) (w : World) {v : Value} {idle : List Int} (hv : SL w (fun i => i < w.heap.size) .u8 v idle) (hu : ∀ x ∈ idle, U8 x) : Calls Tryz.prog 7 #[.int .u8 a, .int .u8 b, .int .u8 d, .int .u8 e, .int .u8 r, v] w fun e' w' => e' = .returned (.bool true) ∧ Below w.heap.size w w' := by
  have hm : CFmay ({ cfg a b d e with h := 4, l := 4, n := 40 } : CF) := by
    have hm0 := cfg_may ha hb0 hd he
    obtain ⟨k1, k2, k3⟩ := card_ok (a := a) (c := d) ha
    unfold U8 at ha hb0 hd he
    refine ⟨⟨?_, ?_, ?_, ?_, ?_, ?_, ?_, ?_, ?_, ?_, ?_, ?_, ?_, ?_, ?_, ?_, ?_, ?_, ?_, ?_, ?_, ?_, ?_⟩, ?_, ?_, ?_⟩ <;> simp only [cfg] <;> first | exact k1 | exact k2 | exact k3 | omega
  have hn0 : ∀ C : CF, ({ cfg a b d e with h := 4, l := 4, n := 40 } : CF) = C → C.h = 4 ∧ C.l = 4 := by
    rintro _ rfl
    unfold U8 at ha hb0 hd he
    (repeat' constructor) <;> (try simp only [cfg]) <;> omega
  have HM := Lib.hid hm
  have HF := Lib.hid hn0
  have HV := Lib.hid hv
  have HU := Lib.hid hu
  clear hu hv
  unfold U8 at hr
  obtain ⟨hr0, hr1⟩ := hr
  clear hm hn0
  go_enter Tryz.func7, Tryz.ntmps7
  go_wp2_with fail
  refine (config_l (a := a) (b := b) (d := d) (e := e) ha hb0 hd he (Sep.nil w)).mono ?_
  rintro e1 w1 ⟨rfl, h1⟩
  have H1 := Lib.hid h1
  clear h1
  go_wp2_with fail
  refine (hNew_g (c := ({ cfg a b d e with h := 4, l := 4, n := 40 } : CF)) HM.out (H1.out.alloc _)).mono ?_
  rintro e2 w2 ⟨hb, kc, rfl, h2⟩
  obtain ⟨c, hc⟩ : ∃ c : CF, ({ cfg a b d e with h := 4, l := 4, n := 40 } : CF) = c := ⟨_, rfl⟩
  have hF := HF.out c hc
  have hm := HM.out
  rw [hc] at h2 hm
  replace h2 : SepO w (fun _ => False) w2 [Hst hb kc c (⟨[], [0, 0, 0, 0], 4⟩ : Gr.GS) 0] := by
    have e : (⟨[], [0, 0, 0, 0], 4⟩ : Gr.GS) = Gr.gnew c.h c.l := by rw [← hc]; rfl
    rw [e]; exact h2
  have H2 := Lib.hid h2
  have HOK := Lib.hid hm.ok
  clear h2 H1 HM HF hm
  go_wp2_with fail
  refine (wakes_l H2.out).mono ?_
  rintro e3 w3 ⟨rfl, h3⟩
  have H3 := Lib.hid h3
  clear h3 H2
  go_wp2_with fail
  obtain ⟨f3, f4⟩ := hF
  have fE := run_fE
  replace H3 := Lib.hid (hst_gg (i := 0) H3.out rfl)
  replace H3 : Hid (SepO w (fun _ => False) w3 [Hgg hb kc c (⟨[], [0, 0, 0, 0], 4⟩ : Gr.GS)]) := H3
  go_loopg [16, 17, 18, 19, 20] 100 (fun gk i s17 s18 s19 s20 wr => ∃ (j : Nat) (G : Gr.GS), j + gk = 100 ∧ i = .int .i64 j ∧ Hid (D4 G) ∧ Sep w wr [Hgg hb kc c G])
  case atStart => exact ⟨0, _, by omega, rfl, Lib.hid ⟨rfl, rfl⟩, H3.out⟩
  case round =>
    clear H3
    obtain ⟨j, G, hj, rfl, hD, h⟩ := hrel
    have HJ := Lib.hid hj
    have hj100 : j ≤ 100 := by omega
    clear hj
    by_cases hlt : (j : Int) < r % 100
    · obtain ⟨k, hk⟩ : ∃ k : Nat, ((j : Int) % 3) = ((k : Nat) : Int) := ⟨j % 3, by omega⟩
      have hk3 : k < 3 := by omega
      have H20 := Lib.hid h
      clear h
      go_wp2_with fail
      refine (stir_g (c := c) (kc := kc) (G := G) j (by omega) (HV.out.keep H20.out.keep0 (fun _ _ h => h)) HU.out H20.out 0 rfl).mono ?_
      rintro e21 w21 ⟨rfl, h21⟩
      have H21 := Lib.hid h21
      clear h21 H20
      go_wp2_with fail
      refine (doM_g (c := c) (kc := kc) (G := G) k 2 2 0 (wf5 (by omega) (by omega) (by omega) (by omega) (by omega)) H21.out 0 rfl).mono ?_
      obtain ⟨hmk, hcur⟩ := hD.out.make k (by omega)
      rintro e22 w22 (⟨rfl, h22⟩ | ⟨rfl, h22⟩)
      · have H22 := Lib.hid h22
        simp only [erA]
        clear h22 H21 hmk hcur
        go_wp2_with fail
        refine (do_g (c := c) (kc := kc) (G := G) 6 ((j : Int) % 2) 0 0 0 (wf5 (by omega) (by omega) (by omega) (by omega) (by omega)) (by decide) H22.out 0 rfl).mono ?_
        rintro e23 w23 ⟨rfl, h23⟩
        generalize (toAn (Gr.gdo G ⟨6, (j : Int) % 2, 0, 0, 0⟩).1) = an
        have H23 := Lib.hid h23
        have HD2 := Lib.hid (hD.out.do_ ⟨6, (j : Int) % 2, 0, 0, 0⟩)
        clear h23 H22
        go_wp2_with fail
        go_roundg (gk - 1)
        case measure => have := HJ.out; omega
        case rel => exact ⟨j + 1, _, by have := HJ.out; omega, by go_num, HD2, H23.out⟩
      · rw [show (Gr.gmake G k 2 2).1 = 0 by rw [hmk]]
        obtain ⟨G22, hG22⟩ : ∃ G', (Gr.gmake G k 2 2).2 = G' := ⟨_, rfl⟩
        rw [hG22] at h22 hcur
        replace h22 : SepO w (fun _ => False) w22 [Hgg hb kc c G22] := h22
        have H22 := Lib.hid h22
        have C22 := Lib.hid hcur
        simp only [erA]
        clear h22 H21 hmk hcur hG22
        go_wp2_with fail
        refine wp_loop_rounds 3 ?_
        rw [rounds_succ]
        go_wp2_with fail
        refine (do_g (c := c) (kc := kc) (G := G22) 4 k 0 0 0 (wf5 (by omega) (by omega) (by omega) (by omega) (by omega)) (by decide) H22.out 0 rfl).mono ?_
        rintro e23 w23 ⟨rfl, h23⟩
        rw [show Gr.gdo G22 ⟨4, k, 0, 0, 0⟩ = (⟨0, false, 0, 0⟩, G22) from C22.out.read 0 (by omega)] at h23 ⊢
        simp only [toAn]
        replace h23 : SepO w (fun _ => False) w23 [Hgg hb kc c G22] := h23
        have h23 := h23.new_blk 33 #[i6 0, .bool false, i6 0, .int .u64 0]
        obtain ⟨z23, hz23⟩ : ∃ z, w23.heap.size = z := ⟨_, rfl⟩
        rw [hz23] at h23
        have H23 := Lib.hid h23
        clear h23 H22
        go_wp2_with fail
        obtain ⟨G24, hg24, cu24, hs24⟩ := C22.out.get hk3 0 (by omega)
        refine (do_g (c := c) (kc := kc) (G := G22) 2 3 k 0 0 (wf5 (by omega) (by omega) (by omega) (by omega) (by omega)) (by decide) H23.out 0 rfl).mono ?_
        rintro e24 w24 ⟨rfl, h24⟩
        rw [show Gr.gdo G22 ⟨2, 3, k, 0, 0⟩ = (Gr.err 0, G24) from hg24] at h24 ⊢
        simp only [toAn, Gr.err]
        replace h24 : SepO w (fun _ => False) w24 [Hgg hb kc c G24, blkP z23 33 #[i6 0, .bool false, i6 0, .int .u64 0]] := h24
        have H24 := Lib.hid h24
        have C24 := Lib.hid cu24
        have S24 : Hid (G24.hs[3]? = some 0) := Lib.hid hs24
        clear h24 H23 C22 hg24 cu24 hs24
        go_wp2_with fail
        refine (do_g (c := c) (kc := kc) (G := G24) 9 3 0 0 0 (wf5 (by omega) (by omega) (by omega) (by omega) (by omega)) (by decide) H24.out 0 rfl).mono ?_
        rintro e25 w25 ⟨rfl, h25⟩
        rw [nil3 S24.out] at h25 ⊢
        simp only [toAn]
        replace h25 : SepO w (fun _ => False) w25 [Hgg hb kc c G24, blkP z23 33 #[i6 0, .bool false, i6 0, .int .u64 0]] := h25
        have h25 := h25.new_blk 33 #[i6 0, .bool true, i6 0, .int .u64 0]
        obtain ⟨z25, hz25⟩ : ∃ z, w25.heap.size = z := ⟨_, rfl⟩
        rw [hz25] at h25
        have b1 := h25.blk (g := z23) (t := 33) (cs := #[i6 0, .bool false, i6 0, .int .u64 0]) 1 rfl
        have b2 := h25.blk (g := z25) (t := 33) (cs := #[i6 0, .bool true, i6 0, .int .u64 0]) 2 rfl
        have x0 := b1.cell 0
        have x3 := b1.cell 3
        have y1 := b2.cell 1
        simp at x0 x3 y1
        have H25 := Lib.hid (h25.first (l := [_]) (m := [_, _]))
        clear h25 H24 b1 b2 S24
        go_wp2_with fail
        obtain ⟨G26, hg26, cu26⟩ := C24.out.write 0 (by omega) 18446744073709551615
        have HG26 := Lib.hid hg26
        refine (do_g (c := c) (kc := kc) (G := G24) 5 k 0 0 18446744073709551615 (wf5m (by omega) (by omega)) (by decide) H25.out 0 rfl).mono ?_
        rintro e26 w26 ⟨rfl, h26⟩
        rw [show Gr.gdo G24 ⟨5, k, 0, 0, 18446744073709551615⟩ = (Gr.err 0, G26) from HG26.out] at h26 ⊢
        simp only [toAn, Gr.err]
        replace h26 : SepO w (fun _ => False) w26 [Hgg hb kc c G26] := h26
        have H26 := Lib.hid h26
        have C26 := Lib.hid cu26
        clear h26 H25 C24 hg26 HG26 cu26 x0 x3 y1
        go_wp2_with fail
        obtain ⟨G27, hg27, cu27⟩ := C26.out.set_ 0 (by omega) ((k : Int) % 3) (by omega) (by omega)
        refine (do_g (c := c) (kc := kc) (G := G26) 3 k 0 ((k : Int) % 3) 0 (wf5 (by omega) (by omega) (by omega) (by omega) (by omega)) (by decide) H26.out 0 rfl).mono ?_
        rintro e27 w27 ⟨rfl, h27⟩
        rw [show Gr.gdo G26 ⟨3, k, 0, (k : Int) % 3, 0⟩ = (Gr.err 0, G27) from hg27] at h27 ⊢
        simp only [toAn, Gr.err]
        replace h27 : SepO w (fun _ => False) w27 [Hgg hb kc c G27] := h27
        have H27 := Lib.hid h27
        have C27 := Lib.hid cu27
        clear h27 H26 C26 hg27 cu27
        go_wp2_with fail
        rw [rounds_succ]
        go_wp2_with fail
        refine (do_g (c := c) (kc := kc) (G := G27) 4 k 1 0 0 (wf5 (by omega) (by omega) (by omega) (by omega) (by omega)) (by decide) H27.out 0 rfl).mono ?_
        rintro e28 w28 ⟨rfl, h28⟩
        rw [show Gr.gdo G27 ⟨4, k, 1, 0, 0⟩ = (⟨0, false, 0, 0⟩, G27) from C27.out.read 1 (by omega)] at h28 ⊢
        simp only [toAn]
        replace h28 : SepO w (fun _ => False) w28 [Hgg hb kc c G27] := h28
        have h28 := h28.new_blk 33 #[i6 0, .bool false, i6 0, .int .u64 0]
        obtain ⟨z28, hz28⟩ : ∃ z, w28.heap.size = z := ⟨_, rfl⟩
        rw [hz28] at h28
        have H28 := Lib.hid h28
        clear h28 H27
        go_wp2_with fail
        obtain ⟨G29, hg29, cu29, hs29⟩ := C27.out.get hk3 1 (by omega)
        refine (do_g (c := c) (kc := kc) (G := G27) 2 3 k 1 0 (wf5 (by omega) (by omega) (by omega) (by omega) (by omega)) (by decide) H28.out 0 rfl).mono ?_
        rintro e29 w29 ⟨rfl, h29⟩
        rw [show Gr.gdo G27 ⟨2, 3, k, 1, 0⟩ = (Gr.err 0, G29) from hg29] at h29 ⊢
        simp only [toAn, Gr.err]
        replace h29 : SepO w (fun _ => False) w29 [Hgg hb kc c G29, blkP z28 33 #[i6 0, .bool false, i6 0, .int .u64 0]] := h29
        have H29 := Lib.hid h29
        have C29 := Lib.hid cu29
        have S29 : Hid (G29.hs[3]? = some 0) := Lib.hid hs29
        clear h29 H28 C27 hg29 cu29 hs29
        go_wp2_with fail
        refine (do_g (c := c) (kc := kc) (G := G29) 9 3 0 0 0 (wf5 (by omega) (by omega) (by omega) (by omega) (by omega)) (by decide) H29.out 0 rfl).mono ?_
        rintro e30 w30 ⟨rfl, h30⟩
        rw [nil3 S29.out] at h30 ⊢
        simp only [toAn]
        replace h30 : SepO w (fun _ => False) w30 [Hgg hb kc c G29, blkP z28 33 #[i6 0, .bool false, i6 0, .int .u64 0]] := h30
        have h30 := h30.new_blk 33 #[i6 0, .bool true, i6 0, .int .u64 0]
        obtain ⟨z30, hz30⟩ : ∃ z, w30.heap.size = z := ⟨_, rfl⟩
        rw [hz30] at h30
        have b1 := h30.blk (g := z28) (t := 33) (cs := #[i6 0, .bool false, i6 0, .int .u64 0]) 1 rfl
        have b2 := h30.blk (g := z30) (t := 33) (cs := #[i6 0, .bool true, i6 0, .int .u64 0]) 2 rfl
        have x0 := b1.cell 0
        have x3 := b1.cell 3
        have y1 := b2.cell 1
        simp at x0 x3 y1
        have H30 := Lib.hid (h30.first (l := [_]) (m := [_, _]))
        clear h30 H29 b1 b2 S29
        go_wp2_with fail
        obtain ⟨G31, hg31, cu31⟩ := C29.out.write 1 (by omega) 18446744073709551615
        have HG31 := Lib.hid hg31
        refine (do_g (c := c) (kc := kc) (G := G29) 5 k 1 0 18446744073709551615 (wf5m (by omega) (by omega)) (by decide) H30.out 0 rfl).mono ?_
        rintro e31 w31 ⟨rfl, h31⟩
        rw [show Gr.gdo G29 ⟨5, k, 1, 0, 18446744073709551615⟩ = (Gr.err 0, G31) from HG31.out] at h31 ⊢
        simp only [toAn, Gr.err]
        replace h31 : SepO w (fun _ => False) w31 [Hgg hb kc c G31] := h31
        have H31 := Lib.hid h31
        have C31 := Lib.hid cu31
        clear h31 H30 C29 hg31 HG31 cu31 x0 x3 y1
        go_wp2_with fail
        obtain ⟨G32, hg32, cu32⟩ := C31.out.set_ 1 (by omega) (((k : Int) + 1) % 3) (by omega) (by omega)
        refine (do_g (c := c) (kc := kc) (G := G31) 3 k 1 (((k : Int) + 1) % 3) 0 (wf5 (by omega) (by omega) (by omega) (by omega) (by omega)) (by decide) H31.out 0 rfl).mono ?_
        rintro e32 w32 ⟨rfl, h32⟩
        rw [show Gr.gdo G31 ⟨3, k, 1, ((k : Int) + 1) % 3, 0⟩ = (Gr.err 0, G32) from hg32] at h32 ⊢
        simp only [toAn, Gr.err]
        replace h32 : SepO w (fun _ => False) w32 [Hgg hb kc c G32] := h32
        have H32 := Lib.hid h32
        have C32 := Lib.hid cu32
        clear h32 H31 C31 hg32 cu32
        go_wp2_with fail
        rw [rounds_succ]
        go_wp2_with fail
        have HD2 := Lib.hid C32.out.1
        clear C32
        go_roundg (gk - 1)
        case measure => have := HJ.out; omega
        case rel => exact ⟨j + 1, _, by have := HJ.out; omega, by go_num, HD2, H32.out⟩
    · have H0 := Lib.hid h
      clear h
      go_wp2_with fail
      go_ret
      exact ⟨rfl, H0.out.below⟩
end Go.Proofs.YtihmkkjmnbehbaaGreat.Wh
