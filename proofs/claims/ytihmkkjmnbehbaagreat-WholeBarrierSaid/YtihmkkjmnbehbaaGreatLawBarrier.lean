/- WholeBarrier as a contract. Condition: what is taken in reads as lists. -/
import Derived.Test.YtihmkkjmnbehbaaGreatMg43
import Derived.Deep.LoopGhost
/- A reference that is written into an old object, as a graph: plain laws. No condition. -/
set_option linter.unusedVariables false
set_option linter.unusedSimpArgs false
namespace Go.Proofs.YtihmkkjmnbehbaaGreat.Wh
open Go.RowKit Go.Proofs.YtihmkkjmnbehbaaGreat.W
/-- Handle 0 holds node 1, which has two references. -/
structure Bar (G : Gr.GS) (r0 r1 : Nat) : Prop where
  hl : G.hs.length = 4
  la : G.largest = 3
  h0 : G.hs[0]? = some 1
  n1 : 1 ≤ G.nodes.length
  nd : Gr.nod G 1 = ⟨[r0, r1], []⟩
/-- Handle 2 holds the one that was written last. -/
def There (G : Gr.GS) (r0 r1 L : Nat) : Prop := ∃ q x, q = (if L % 2 = 0 then r0 else r1) ∧ G.hs[2]? = some q ∧ q ≠ 0 ∧ q ≤ G.nodes.length ∧ Gr.nod G q = ⟨[x], [(L : Int)]⟩
section
variable {G : Gr.GS} {r0 r1 L : Nat}
theorem Bar.has (h : Bar G r0 r1) {x : Int} (h0 : 0 ≤ x) (h1 : x < 4) : Gr.has G x = true := (Gr.has_iff G x).2 ⟨h0, by rw [h.hl]; omega⟩
theorem Bar.wrong0 (h : Bar G r0 r1) : Gr.wrong G 0 = 0 ∧ Gr.held G 0 = 1 := by
  have e : Gr.held G 0 = 1 := by unfold Gr.held; show (G.hs[0]?).getD 0 = 1; rw [h.h0]; rfl
  unfold Gr.wrong
  rw [if_pos (h.has (by omega) (by omega)), e]
  exact ⟨rfl, rfl⟩
/-- A new one is written. -/
theorem Bar.write (h : Bar G r0 r1) (j : Nat) : ∃ r0' r1', Bar (Gr.gdo (Gr.gdo (Gr.gdo (leafG G 1 j 1) ⟨3, 0, (j : Int) % 2, 1, 0⟩).2 ⟨6, 1, 0, 0, 0⟩).2 ⟨2, 2, 0, (j : Int) % 2, 0⟩).2 r0' r1' ∧ There (Gr.gdo (Gr.gdo (Gr.gdo (leafG G 1 j 1) ⟨3, 0, (j : Int) % 2, 1, 0⟩).2 ⟨6, 1, 0, 0, 0⟩).2 ⟨2, 2, 0, (j : Int) % 2, 0⟩).2 r0' r1' j := by
  obtain ⟨hl, la, h0, n1, nd⟩ := h
  obtain ⟨N, hN⟩ : ∃ N, G.nodes.length = N := ⟨_, rfl⟩
  have hs0 : G.hs[0]'(by omega) = 1 := by rw [List.getElem?_eq_getElem (by omega)] at h0; exact Option.some.inj h0
  -- the leaf
  obtain ⟨G1, hG1⟩ : ∃ G1, leafG G 1 j 1 = G1 := ⟨_, rfl⟩
  have a1 : Bar G1 r0 r1 := by
    rw [← hG1]
    refine ⟨by simp [leafG, hl], la, ?_, by simp [leafG], ?_⟩
    · simp only [leafG]; rw [List.getElem?_set_ne (by decide)]; exact h0
    · show Gr.nod { G with nodes := G.nodes ++ [⟨List.replicate (1 : Int).toNat 0, [(j : Int)]⟩] } 1 = _
      rw [nod_app (by omega) (by omega)]; exact nd
  have a2 : G1.hs[1]? = some (N + 1) := by rw [← hG1]; simp only [leafG]; rw [show (1 : Int).toNat = 1 from rfl, List.getElem?_set_self (by omega), hN]
  have a3 : G1.nodes.length = N + 1 := by rw [← hG1]; simp [leafG, hN]
  have a4 : Gr.nod G1 (N + 1) = ⟨[0], [(j : Int)]⟩ := by rw [← hG1, ← hN]; exact nod_new G _
  rw [hG1]
  -- it is set
  have w1 := a1.wrong0
  have e1 : Gr.held G1 1 = N + 1 := by unfold Gr.held; show (G1.hs[1]?).getD 0 = _; rw [a2]; rfl
  have g2 : ∃ s0 s1 : Nat, (Gr.gdo G1 ⟨3, 0, (j : Int) % 2, 1, 0⟩).2 = { G1 with nodes := Gr.setN G1 1 ⟨[s0, s1], []⟩ } ∧ (if j % 2 = 0 then s0 else s1) = N + 1 := by
    have hj : j % 2 = 0 ∨ j % 2 = 1 := by omega
    have key : ∀ n : Int, n = 0 ∨ n = 1 → (Gr.gdo G1 ⟨3, 0, n, 1, 0⟩).2 = { G1 with nodes := Gr.setN G1 1 ⟨[r0, r1].set n.toNat (N + 1), []⟩ } := fun n hn => by
      show (Gr.ans (Gr.gset G1 0 n 1)).2 = _
      unfold Gr.gset
      rw [if_pos w1.1, if_pos (a1.has (by omega) (by omega)), w1.2, a1.nd, e1]
      rcases hn with rfl | rfl <;> rfl
    rcases hj with e | e
    · have : (j : Int) % 2 = 0 := by omega
      rw [this, key 0 (.inl rfl)]
      exact ⟨N + 1, r1, rfl, by rw [if_pos e]⟩
    · have : (j : Int) % 2 = 1 := by omega
      rw [this, key 1 (.inr rfl)]
      exact ⟨r0, N + 1, rfl, by rw [if_neg (by omega)]⟩
  obtain ⟨s0, s1, eq2, hs⟩ := g2
  obtain ⟨G2, hG2⟩ : ∃ G2, ({ G1 with nodes := Gr.setN G1 1 ⟨[s0, s1], []⟩ } : Gr.GS) = G2 := ⟨_, rfl⟩
  rw [eq2, hG2]
  have b1 : Bar G2 s0 s1 := by
    rw [← hG2]
    refine ⟨a1.hl, a1.la, a1.h0, by simp [Gr.setN]; exact a1.n1, ?_⟩
    rw [nod_set (by omega) a1.n1 _ 1 (by omega), if_pos rfl]
  have b3 : G2.nodes.length = N + 1 := by rw [← hG2]; simp [Gr.setN, a3]
  have b4 : Gr.nod G2 (N + 1) = ⟨[0], [(j : Int)]⟩ := by
    rw [← hG2, nod_set (by omega) a1.n1 _ (N + 1) (by omega), if_neg (by omega)]; exact a4
  -- handle 1 is cleared
  have eq3 : (Gr.gdo G2 ⟨6, 1, 0, 0, 0⟩).2 = { G2 with hs := G2.hs.set 1 0 } := by
    show (Gr.ans (Gr.gclear G2 1)).2 = _
    unfold Gr.gclear
    rw [if_pos (b1.has (by omega) (by omega))]; rfl
  rw [eq3]
  obtain ⟨G3, hG3⟩ : ∃ G3, ({ G2 with hs := G2.hs.set 1 0 } : Gr.GS) = G3 := ⟨_, rfl⟩
  rw [hG3]
  have c1 : Bar G3 s0 s1 := by
    rw [← hG3]
    exact ⟨by simp [b1.hl], b1.la, by simp only []; rw [List.getElem?_set_ne (by decide)]; exact b1.h0, b1.n1, b1.nd⟩
  have c3 : G3.nodes.length = N + 1 := by rw [← hG3]; exact b3
  have c4 : Gr.nod G3 (N + 1) = ⟨[0], [(j : Int)]⟩ := by rw [← hG3]; exact b4
  -- handle 2 holds it
  have eq4 : (Gr.gdo G3 ⟨2, 2, 0, (j : Int) % 2, 0⟩).2 = { G3 with hs := G3.hs.set 2 (N + 1) } := by
    show (Gr.ans (Gr.gget G3 2 0 ((j : Int) % 2))).2 = _
    unfold Gr.gget
    rw [if_pos c1.wrong0.1, if_pos (c1.has (by omega) (by omega)), c1.wrong0.2, c1.nd]
    have hj : j % 2 = 0 ∨ j % 2 = 1 := by omega
    rcases hj with e | e
    · have e2 : (j : Int) % 2 = 0 := by omega
      rw [if_pos e] at hs
      rw [e2, hs]; rfl
    · have e2 : (j : Int) % 2 = 1 := by omega
      rw [if_neg (by omega)] at hs
      rw [e2, hs]; rfl
  rw [eq4]
  refine ⟨s0, s1, ⟨by simp [c1.hl], c1.la, ?_, c1.n1, c1.nd⟩, N + 1, 0, hs.symm, ?_, by omega, by simp only []; omega, c4⟩
  · simp only []; rw [List.getElem?_set_ne (by decide)]; exact c1.h0
  · simp only []; rw [List.getElem?_set_self (by rw [c1.hl]; omega)]
/-- It is read. -/
theorem There.read (h : Bar G r0 r1) (t : There G r0 r1 L) : Gr.gdo G ⟨4, 2, 0, 0, 0⟩ = (⟨0, false, 0, (L : Int)⟩, G) := by
  obtain ⟨q, x, e1, e2, e3, e4, e5⟩ := t
  have e : Gr.held G 2 = q := by unfold Gr.held; show (G.hs[2]?).getD 0 = q; rw [e2]; rfl
  have hw : Gr.wrong G 2 = 0 := by unfold Gr.wrong; rw [if_pos (h.has (by omega) (by omega)), e, if_neg e3]
  show (Gr.gread G 2 0, G) = _
  unfold Gr.gread
  rw [if_pos hw, e, e5]; rfl
theorem There.get (h : Bar G r0 r1) (t : There G r0 r1 L) : ∃ G', Gr.gdo G ⟨2, 3, 0, (L : Int) % 2, 0⟩ = (Gr.err 0, G') ∧ Bar G' r0 r1 ∧ There G' r0 r1 L ∧ Gr.gdo G' ⟨8, 2, 3, 0, 0⟩ = (⟨0, true, 0, 0⟩, G') := by
  obtain ⟨q, x, e1, e2, e3, e4, e5⟩ := t
  have eq4 : Gr.gdo G ⟨2, 3, 0, (L : Int) % 2, 0⟩ = (Gr.err 0, { G with hs := G.hs.set 3 q }) := by
    show Gr.ans (Gr.gget G 3 0 ((L : Int) % 2)) = _
    unfold Gr.gget
    rw [if_pos h.wrong0.1, if_pos (h.has (by omega) (by omega)), h.wrong0.2, h.nd]
    have hj : L % 2 = 0 ∨ L % 2 = 1 := by omega
    rcases hj with e | e
    · have e2 : (L : Int) % 2 = 0 := by omega
      rw [if_pos e] at e1
      rw [e2, e1]; rfl
    · have e2 : (L : Int) % 2 = 1 := by omega
      rw [if_neg (by omega)] at e1
      rw [e2, e1]; rfl
  have b1 : Bar { G with hs := G.hs.set 3 q } r0 r1 := ⟨by simp [h.hl], h.la, by simp only []; rw [List.getElem?_set_ne (by decide)]; exact h.h0, h.n1, h.nd⟩
  have k2 : (G.hs.set 3 q)[2]? = some q := by rw [List.getElem?_set_ne (by decide)]; exact e2
  have k3 : (G.hs.set 3 q)[3]? = some q := by rw [List.getElem?_set_self (by rw [h.hl]; omega)]
  refine ⟨_, eq4, b1, ⟨q, x, e1, k2, e3, e4, e5⟩, ?_⟩
  show (Gr.gsame _ 2 3, _) = _
  unfold Gr.gsame
  rw [b1.has (by omega) (by omega), b1.has (by omega) (by omega)]
  have m2 : Gr.held { G with hs := G.hs.set 3 q } 2 = q := by unfold Gr.held; show ((G.hs.set 3 q)[2]?).getD 0 = q; rw [k2]; rfl
  have m3 : Gr.held { G with hs := G.hs.set 3 q } 3 = q := by unfold Gr.held; show ((G.hs.set 3 q)[3]?).getD 0 = q; rw [k3]; rfl
  rw [m2, m3]; simp
end
end Go.Proofs.YtihmkkjmnbehbaaGreat.Wh
/- Barrier as a contract. Condition: what is taken in reads as lists. -/
set_option linter.unusedVariables false
set_option linter.unusedSimpArgs false
namespace Go.Proofs.YtihmkkjmnbehbaaGreat.Wh
open Go.RowKit Go.Proofs.YtihmkkjmnbehbaaGreat.W Go.Proofs.YtihmkkjmnbehbaaGreat.Sm
set_option maxRecDepth 20000 in
set_option maxHeartbeats 8000000 in
theorem Barrier_calls (a b d e : Int) (ha : U8 a) (hb0 : U8 b) (hd : U8 d) (he : U8 e) (r : Int) (hr : U8 r) (w : World) {v : Value} {idle : List Int} (hv : SL w (fun i => i < w.heap.size) .u8 v idle) (hu : ∀ x ∈ idle, U8 x) : Calls Tryz.prog 6 #[.int .u8 a, .int .u8 b, .int .u8 d, .int .u8 e, .int .u8 r, v] w fun e' w' => e' = .returned (.bool true) ∧ Below w.heap.size w w' := by
  have hm : CFmay ({ cfg a b d e with h := 4, l := 3, n := 60, p := 8 } : CF) := by
    have hm0 := cfg_may ha hb0 hd he
    obtain ⟨k1, k2, k3⟩ := card_ok (a := a) (c := d) ha
    unfold U8 at ha hb0 hd he
    refine ⟨⟨?_, ?_, ?_, ?_, ?_, ?_, ?_, ?_, ?_, ?_, ?_, ?_, ?_, ?_, ?_, ?_, ?_, ?_, ?_, ?_, ?_, ?_, ?_⟩, ?_, ?_, ?_⟩ <;> simp only [cfg] <;> first | exact k1 | exact k2 | exact k3 | omega
  have hn0 : ∀ C : CF, ({ cfg a b d e with h := 4, l := 3, n := 60, p := 8 } : CF) = C → 12 ≤ C.mia ∧ C.n = 60 ∧ C.h = 4 ∧ C.l = 3 := by
    rintro _ rfl
    unfold U8 at ha hb0 hd he
    (repeat' constructor) <;> (try simp only [cfg]) <;> omega
  have HM := Lib.hid hm
  have HF := Lib.hid hn0
  have HV := Lib.hid hv
  have HU := Lib.hid hu
  clear hu hv
  unfold U8 at hr
  obtain ⟨hr0, hr1⟩ := hr
  clear hm hn0
  go_enter Tryz.func6, Tryz.ntmps6
  go_wp2_with fail
  refine (config_l (a := a) (b := b) (d := d) (e := e) ha hb0 hd he (Sep.nil w)).mono ?_
  rintro e1 w1 ⟨rfl, h1⟩
  have H1 := Lib.hid h1
  clear h1
  go_wp2_with fail
  refine (hNew_g (c := ({ cfg a b d e with h := 4, l := 3, n := 60, p := 8 } : CF)) HM.out (H1.out.alloc _)).mono ?_
  rintro e2 w2 ⟨hb, kc, rfl, h2⟩
  obtain ⟨c, hc⟩ : ∃ c : CF, ({ cfg a b d e with h := 4, l := 3, n := 60, p := 8 } : CF) = c := ⟨_, rfl⟩
  have hF := HF.out c hc
  have hm := HM.out
  rw [hc] at h2 hm
  replace h2 : SepO w (fun _ => False) w2 [Hst hb kc c (⟨[], [0, 0, 0, 0], 3⟩ : Gr.GS) 0] := by
    have e : (⟨[], [0, 0, 0, 0], 3⟩ : Gr.GS) = Gr.gnew c.h c.l := by rw [← hc]; rfl
    rw [e]; exact h2
  have H2 := Lib.hid h2
  have HOK := Lib.hid hm.ok
  clear h2 H1 HM HF hm
  go_wp2_with fail
  refine (wakes_l H2.out).mono ?_
  rintro e3 w3 ⟨rfl, h3⟩
  have H3 := Lib.hid h3
  clear h3 H2
  go_wp2_with fail
  obtain ⟨f1, f2, f3, f4⟩ := hF
  have fE := run_fE
  refine (doF_g (c := c) (kc := kc) (u := 0) 0 2 0 0 (wf5 (by omega) (by omega) (by omega) (by omega) (by omega)) (by omega) (by omega) (by omega) (by decide) H3.out 0 rfl).mono ?_
  rintro e4 w4 ⟨rfl, h4⟩
  replace h4 := hst_gg (i := 0) h4 rfl
  replace h4 : SepO w (fun _ => False) w4 [Hgg hb kc c (⟨[⟨[0, 0], []⟩], [1, 0, 0, 0], 3⟩ : Gr.GS)] := h4
  have H4 := Lib.hid h4
  simp only [erA]
  clear h4 H3
  go_wp2_with fail
  go_loopg [16] 8 (fun gk i wr => ∃ (j : Nat), j + gk = 8 ∧ i = .int .i64 j ∧ Sep w wr [Hgg hb kc c (⟨[⟨[0, 0], []⟩], [1, 0, 0, 0], 3⟩ : Gr.GS)])
  case atStart => exact ⟨0, by omega, rfl, H4.out⟩
  case round =>
    clear H4
    obtain ⟨j, hj, rfl, h⟩ := hrel
    have HJ := Lib.hid hj
    have hj8 : j ≤ 8 := by omega
    clear hj
    by_cases hlt : j < 8
    · have H20 := Lib.hid h
      clear h
      go_wp2_with fail
      refine (doI_g (c := c) (G := (⟨[⟨[0, 0], []⟩], [1, 0, 0, 0], 3⟩ : Gr.GS)) (kc := kc) 12 (0) (0) 0 0 (wf5 (by omega) (by omega) (by omega) (by omega) (by omega)) (.inr rfl) H20.out 0 rfl).mono ?_
      rintro e21 w21 ⟨⟨an21, rfl⟩, h21⟩
      have H21 := Lib.hid h21
      clear h21 H20
      go_wp2_with fail
      refine (doI_g (c := c) (G := (⟨[⟨[0, 0], []⟩], [1, 0, 0, 0], 3⟩ : Gr.GS)) (kc := kc) 11 (0) (1000) 0 0 (wf5 (by omega) (by omega) (by omega) (by omega) (by omega)) (.inl rfl) H21.out 0 rfl).mono ?_
      rintro e22 w22 ⟨⟨an22, rfl⟩, h22⟩
      have H22 := Lib.hid h22
      clear h22 H21
      go_wp2_with fail
      go_roundg (gk - 1)
      case measure => have := HJ.out; omega
      case rel => exact ⟨j + 1, by have := HJ.out; omega, by go_num, H22.out⟩
    · have H5 := Lib.hid h
      clear h HJ
      go_wp2_with fail
      go_loopg [17, 18, 19, 20, 21] 80 (fun gk s17 s18 i s20 s21 wr => ∃ (j L r0 r1 : Nat) (th : Bool) (G : Gr.GS), j + gk = 80 ∧ i = .int .i64 j ∧ s17 = .int .u64 L ∧ s18 = .bool th ∧ L ≤ 80 ∧ Hid (Bar G r0 r1) ∧ Hid (th = true → There G r0 r1 L) ∧ Sep w wr [Hgg hb kc c G])
      case atStart => exact ⟨0, 0, 0, 0, false, _, by omega, rfl, rfl, rfl, by omega, Lib.hid ⟨rfl, rfl, rfl, by decide, rfl⟩, Lib.hid (fun h => by cases h), H5.out⟩
      case round =>
        clear H5
        obtain ⟨j, L, r0, r1, th, G, hj, rfl, rfl, rfl, hL, HB, HT, h⟩ := hrel
        have HJ := Lib.hid hj
        have hj80 : j ≤ 80 := by omega
        clear hj
        by_cases hlt : (j : Int) < r % 80
        · have H20 := Lib.hid h
          have HJU : Hid (IntKind.u64.wrap (j : Int) = (j : Int)) := Lib.hid (u64_small (by omega))
          have hj1 : wrap64 ((j : Int) + 1) = ((j + 1 : Nat) : Int) := by unfold wrap64; omega
          have e1 := HB.out.has (x := 1) (by omega) (by omega)
          have e2 : Gr.fits G 1 1 = true := by unfold Gr.fits; rw [HB.out.la]; rfl
          have HE := Lib.hid (And.intro e1 e2)
          clear h e1 e2
          go_wp2_with fail
          refine (stir_g (c := c) (kc := kc) (G := G) j (by omega) (HV.out.keep H20.out.keep0 (fun _ _ h => h)) HU.out H20.out 0 rfl).mono ?_
          rintro e21 w21 ⟨rfl, h21⟩
          have H21 := Lib.hid h21
          clear h21 H20
          go_wp2_with fail
          refine (leaf_g (c := c) (kc := kc) (G := G) 1 j 1 (by omega) (by omega) (by omega) HE.out.1 HE.out.2 H21.out 0 rfl).mono ?_
          rintro e22 w22 (⟨rfl, h22⟩ | ⟨rfl, h22⟩)
          · have H22 := Lib.hid h22
            clear h22 H21 HE
            cases th
            · go_wp2_with fail
              refine (stir_g (c := c) (kc := kc) (G := G) (j + 1) (by omega) (HV.out.keep H22.out.keep0 (fun _ _ h => h)) HU.out H22.out 0 rfl).mono ?_
              rintro e23 w23 ⟨rfl, h23⟩
              have H23 := Lib.hid h23
              clear h23 H22
              go_wp2_with fail
              go_roundg (gk - 1)
              case measure => have := HJ.out; omega
              case rel => exact ⟨j + 1, L, r0, r1, false, G, by have := HJ.out; omega, by go_num, rfl, rfl, by omega, HB, Lib.hid (fun h => by cases h), H23.out⟩
            · replace HT : Hid (There G r0 r1 L) := Lib.hid (HT.out rfl)
              go_wp2_with fail
              refine (stir_g (c := c) (kc := kc) (G := G) (j + 1) (by omega) (HV.out.keep H22.out.keep0 (fun _ _ h => h)) HU.out H22.out 0 rfl).mono ?_
              rintro e23 w23 ⟨rfl, h23⟩
              have H23 := Lib.hid h23
              clear h23 H22
              go_wp2_with fail
              refine (do_g (c := c) (kc := kc) (G := G) 4 2 0 0 0 (wf5 (by omega) (by omega) (by omega) (by omega) (by omega)) (by decide) H23.out 0 rfl).mono ?_
              rintro e24 w24 ⟨rfl, h24⟩
              rw [There.read HB.out HT.out] at h24 ⊢
              simp only [toAn]
              replace h24 : SepO w (fun _ => False) w24 [Hgg hb kc c G] := h24
              have h24 := h24.new_blk 33 #[i6 0, .bool false, i6 0, .int .u64 (L : Nat)]
              obtain ⟨z24, hz24⟩ : ∃ z, w24.heap.size = z := ⟨_, rfl⟩
              rw [hz24] at h24
              have H24 := Lib.hid h24
              clear h24 H23
              go_wp2_with fail
              obtain ⟨G9, hg9, hb9, ht9, hs9⟩ := There.get HB.out HT.out
              have HB9 := Lib.hid hb9
              have HT9 := Lib.hid ht9
              have HS9 := Lib.hid hs9
              refine (do_g (c := c) (kc := kc) (G := G) 2 3 0 ((L : Nat) % 2) 0 (wf5 (by omega) (by omega) (by omega) (by omega) (by omega)) (by decide) H24.out 0 rfl).mono ?_
              rintro e25 w25 ⟨rfl, h25⟩
              rw [hg9] at h25 ⊢
              simp only [toAn, Gr.err]
              replace h25 : SepO w (fun _ => False) w25 [Hgg hb kc c G9, blkP z24 33 #[i6 0, .bool false, i6 0, .int .u64 (L : Nat)]] := h25
              have H25 := Lib.hid h25
              clear h25 H24 hg9 hb9 ht9 hs9 HB HT
              go_wp2_with fail
              refine (do_g (c := c) (kc := kc) (G := G9) 8 2 3 0 0 (wf5 (by omega) (by omega) (by omega) (by omega) (by omega)) (by decide) H25.out 0 rfl).mono ?_
              rintro e26 w26 ⟨rfl, h26⟩
              rw [HS9.out] at h26 ⊢
              simp only [toAn]
              replace h26 : SepO w (fun _ => False) w26 [Hgg hb kc c G9, blkP z24 33 #[i6 0, .bool false, i6 0, .int .u64 (L : Nat)]] := h26
              have h26 := h26.new_blk 33 #[i6 0, .bool true, i6 0, .int .u64 0]
              obtain ⟨z26, hz26⟩ : ∃ z, w26.heap.size = z := ⟨_, rfl⟩
              rw [hz26] at h26
              have b1 := h26.blk (g := z24) (t := 33) (cs := #[i6 0, .bool false, i6 0, .int .u64 (L : Nat)]) 1 rfl
              have b2 := h26.blk (g := z26) (t := 33) (cs := #[i6 0, .bool true, i6 0, .int .u64 0]) 2 rfl
              have x0 := b1.cell 0
              have x3 := b1.cell 3
              have y0 := b2.cell 0
              have y1 := b2.cell 1
              simp at x0 x3 y0 y1
              have H26 := Lib.hid (h26.first (l := [_]) (m := [_, _]))
              clear h26 H25 b1 b2 HS9
              go_wp2_with fail
              go_roundg (gk - 1)
              case measure => have := HJ.out; omega
              case rel => exact ⟨j + 1, L, r0, r1, true, G9, by have := HJ.out; omega, by go_num, rfl, rfl, by omega, HB9, Lib.hid (fun _ => HT9.out), H26.out⟩
          · obtain ⟨s0, s1, hb0', ht0'⟩ := HB.out.write j
            replace h22 : SepO w (fun _ => False) w22 [Hgg hb kc c (leafG G 1 j 1)] := h22
            obtain ⟨Ga, hGa⟩ : ∃ Ga, leafG G 1 j 1 = Ga := ⟨_, rfl⟩
            rw [hGa] at h22 hb0' ht0'
            have H22 := Lib.hid h22
            clear h22 H21 HE HB HT
            go_wp2_with fail
            refine (do_g (c := c) (kc := kc) (G := Ga) 3 0 ((j : Int) % 2) 1 0 (wf5 (by omega) (by omega) (by omega) (by omega) (by omega)) (by decide) H22.out 0 rfl).mono ?_
            rintro e23 w23 ⟨rfl, h23⟩
            replace h23 : SepO w (fun _ => False) w23 [Hgg hb kc c (Gr.gdo Ga ⟨3, 0, ((j : Int) % 2), 1, 0⟩).2] := h23
            generalize (toAn (Gr.gdo Ga ⟨3, 0, ((j : Int) % 2), 1, 0⟩).1) = an0
            obtain ⟨Gb0, hGb0⟩ : ∃ GX, (Gr.gdo Ga ⟨3, 0, ((j : Int) % 2), 1, 0⟩).2 = GX := ⟨_, rfl⟩
            rw [hGb0] at h23 hb0' ht0'
            have H23 := Lib.hid h23
            clear h23 H22 hGb0
            go_wp2_with fail
            refine (do_g (c := c) (kc := kc) (G := Gb0) 6 1 0 0 0 (wf5 (by omega) (by omega) (by omega) (by omega) (by omega)) (by decide) H23.out 0 rfl).mono ?_
            rintro e24 w24 ⟨rfl, h24⟩
            replace h24 : SepO w (fun _ => False) w24 [Hgg hb kc c (Gr.gdo Gb0 ⟨6, 1, 0, 0, 0⟩).2] := h24
            generalize (toAn (Gr.gdo Gb0 ⟨6, 1, 0, 0, 0⟩).1) = an1
            obtain ⟨Gb1, hGb1⟩ : ∃ GX, (Gr.gdo Gb0 ⟨6, 1, 0, 0, 0⟩).2 = GX := ⟨_, rfl⟩
            rw [hGb1] at h24 hb0' ht0'
            have H24 := Lib.hid h24
            clear h24 H23 hGb1
            have hju := HJU.out
            go_wp2_with fail
            clear hju
            refine (do_g (c := c) (kc := kc) (G := Gb1) 2 2 0 ((j : Int) % 2) 0 (wf5 (by omega) (by omega) (by omega) (by omega) (by omega)) (by decide) H24.out 0 rfl).mono ?_
            rintro e25 w25 ⟨rfl, h25⟩
            replace h25 : SepO w (fun _ => False) w25 [Hgg hb kc c (Gr.gdo Gb1 ⟨2, 2, 0, ((j : Int) % 2), 0⟩).2] := h25
            generalize (toAn (Gr.gdo Gb1 ⟨2, 2, 0, ((j : Int) % 2), 0⟩).1) = an2
            obtain ⟨Gb2, hGb2⟩ : ∃ GX, (Gr.gdo Gb1 ⟨2, 2, 0, ((j : Int) % 2), 0⟩).2 = GX := ⟨_, rfl⟩
            rw [hGb2] at h25 hb0' ht0'
            have H25 := Lib.hid h25
            clear h25 H24 hGb2
            have HB := Lib.hid hb0'
            have HT := Lib.hid ht0'
            clear hb0' ht0' 
            go_wp2_with fail
            refine (stir_g (c := c) (kc := kc) (G := Gb2) (j + 1) (by omega) (HV.out.keep H25.out.keep0 (fun _ _ h => h)) HU.out H25.out 0 rfl).mono ?_
            rintro e26 w26 ⟨rfl, h26⟩
            have H26 := Lib.hid h26
            clear h26 H25
            go_wp2_with fail
            refine (do_g (c := c) (kc := kc) (G := Gb2) 4 2 0 0 0 (wf5 (by omega) (by omega) (by omega) (by omega) (by omega)) (by decide) H26.out 0 rfl).mono ?_
            rintro e27 w27 ⟨rfl, h27⟩
            rw [There.read HB.out HT.out] at h27 ⊢
            simp only [toAn]
            replace h27 : SepO w (fun _ => False) w27 [Hgg hb kc c Gb2] := h27
            have h27 := h27.new_blk 33 #[i6 0, .bool false, i6 0, .int .u64 (j : Nat)]
            obtain ⟨z27, hz27⟩ : ∃ z, w27.heap.size = z := ⟨_, rfl⟩
            rw [hz27] at h27
            have H27 := Lib.hid h27
            clear h27 H26
            go_wp2_with fail
            obtain ⟨G9, hg9, hb9, ht9, hs9⟩ := There.get HB.out HT.out
            have HB9 := Lib.hid hb9
            have HT9 := Lib.hid ht9
            have HS9 := Lib.hid hs9
            refine (do_g (c := c) (kc := kc) (G := Gb2) 2 3 0 ((j : Nat) % 2) 0 (wf5 (by omega) (by omega) (by omega) (by omega) (by omega)) (by decide) H27.out 0 rfl).mono ?_
            rintro e28 w28 ⟨rfl, h28⟩
            rw [hg9] at h28 ⊢
            simp only [toAn, Gr.err]
            replace h28 : SepO w (fun _ => False) w28 [Hgg hb kc c G9, blkP z27 33 #[i6 0, .bool false, i6 0, .int .u64 (j : Nat)]] := h28
            have H28 := Lib.hid h28
            clear h28 H27 hg9 hb9 ht9 hs9 HB HT
            go_wp2_with fail
            refine (do_g (c := c) (kc := kc) (G := G9) 8 2 3 0 0 (wf5 (by omega) (by omega) (by omega) (by omega) (by omega)) (by decide) H28.out 0 rfl).mono ?_
            rintro e29 w29 ⟨rfl, h29⟩
            rw [HS9.out] at h29 ⊢
            simp only [toAn]
            replace h29 : SepO w (fun _ => False) w29 [Hgg hb kc c G9, blkP z27 33 #[i6 0, .bool false, i6 0, .int .u64 (j : Nat)]] := h29
            have h29 := h29.new_blk 33 #[i6 0, .bool true, i6 0, .int .u64 0]
            obtain ⟨z29, hz29⟩ : ∃ z, w29.heap.size = z := ⟨_, rfl⟩
            rw [hz29] at h29
            have b1 := h29.blk (g := z27) (t := 33) (cs := #[i6 0, .bool false, i6 0, .int .u64 (j : Nat)]) 1 rfl
            have b2 := h29.blk (g := z29) (t := 33) (cs := #[i6 0, .bool true, i6 0, .int .u64 0]) 2 rfl
            have x0 := b1.cell 0
            have x3 := b1.cell 3
            have y0 := b2.cell 0
            have y1 := b2.cell 1
            simp at x0 x3 y0 y1
            have H29 := Lib.hid (h29.first (l := [_]) (m := [_, _]))
            clear h29 H28 b1 b2 HS9
            go_wp2_with fail
            go_roundg (gk - 1)
            case measure => have := HJ.out; omega
            case rel => exact ⟨j + 1, j, s0, s1, true, G9, by have := HJ.out; omega, by go_num, rfl, rfl, by omega, HB9, Lib.hid (fun _ => HT9.out), H29.out⟩
        · have H0 := Lib.hid h
          clear h
          go_wp2_with fail
          go_ret
          exact ⟨rfl, H0.out.below⟩
end Go.Proofs.YtihmkkjmnbehbaaGreat.Wh
