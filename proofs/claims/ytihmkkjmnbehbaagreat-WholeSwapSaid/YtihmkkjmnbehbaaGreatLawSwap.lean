/- WholeSwap as a contract. Condition: what is taken in reads as lists. -/
import Derived.Test.YtihmkkjmnbehbaaGreatMg43
import Derived.Test.YtihmkkjmnbehbaaGreatMg00
import Derived.Deep.LoopGhost
/- A leaf at the start. No condition. -/
set_option linter.unusedVariables false
set_option linter.unusedSimpArgs false
namespace Go.Proofs.YtihmkkjmnbehbaaGreat.Wh
open Go.RowKit Go.Proofs.YtihmkkjmnbehbaaGreat.W Go.Proofs.YtihmkkjmnbehbaaGreat.Sm
section
variable {W w : World} {oo : Nat → Prop} {l L : List Pr} {hb kc : Nat} {c : CF} {G : Gr.GS} {u : Int}
theorem leafF_g (xa n r : Int) (hx : 0 ≤ xa ∧ xa ≤ 64) (hn : 0 ≤ n ∧ n ≤ 1000000) (hr : 0 ≤ r ∧ r ≤ 64) (hu : 0 ≤ u ∧ u < c.mia) (hcl : r + 1 ≤ c.l) (hfn : u + r + 1 + 2 ≤ c.n) (hh : Gr.has G xa = true) (hf : Gr.fits G r 1 = true) (h : SepO W oo w L) (i : Nat) (hi : L[i]? = some (Hst hb kc c G u)) : Calls Tryz.prog 20 #[pt hb, .int .i64 xa, .int .i64 n, .int .i64 r] w fun e w' => e = .returned (.bool true) ∧ SepO W oo w' (L.set i (Hst hb kc c (leafG G xa n r) (u + r + 1 + 2))) := by
  obtain ⟨e1, e2⟩ := leaf_eq (n := n) hh hf
  obtain ⟨hx0, hx1⟩ := hx
  obtain ⟨hn0, hn1⟩ := hn
  obtain ⟨hr0, hr1⟩ := hr
  have hl := (List.getElem?_eq_some_iff.1 hi).1
  have hw : IntKind.u64.wrap n = n := u64_small (by omega)
  have fE := run_fE
  have HI := Lib.hid hi
  have H := Lib.hid h
  have HL := Lib.hid hl
  have HE2 := Lib.hid e2
  have HH := Lib.hid hh
  clear h hi hl hh hf e1 e2
  go_enter Tryz.func20, Tryz.ntmps20
  go_wp2_with fail
  refine (doF_g (c := c) (G := G) (kc := kc) xa r 1 0 (wf5 (by omega) (by omega) (by omega) (by omega) (by omega)) hu (by omega) (by omega) HH.out H.out i HI.out).mono ?_
  rintro e w1 ⟨rfl, h1⟩
  have H1 := Lib.hid h1
  simp only [erA]
  clear h1 H
  go_wp2_with fail
  refine (doW_g (c := c) (kc := kc) xa 0 n (wf5 (by omega) (by omega) (by omega) (by omega) (by omega)) H1.out i (by rw [List.getElem?_set_self HL.out])).mono ?_
  rintro e w2 ⟨rfl, h2⟩
  rw [HE2.out] at h2 ⊢
  rw [List.set_set] at h2
  have H2 := Lib.hid h2
  simp only [erA]
  clear h2 H1
  go_wp2_with fail
  go_ret
  exact ⟨rfl, H2.out⟩
/-- What a join comes to. -/
def joinG (G : Gr.GS) (n : Int) : Gr.GS := (Gr.gdo (Gr.gdo (Gr.gdo (leafG G 5 (1000 + n) 2) ⟨3, 5, 0, 0, 0⟩).2 ⟨3, 5, 1, 4, 0⟩).2 ⟨7, 4, 5, 0, 0⟩).2
theorem join_g (n : Int) (hn : 0 ≤ n ∧ n ≤ 1000) (hh : Gr.has G 5 = true) (hf : Gr.fits G 2 1 = true) (h : SepO W oo w L) (i : Nat) (hi : L[i]? = some (Hgg hb kc c G)) : Calls Tryz.prog 22 #[pt hb, .int .i64 n] w fun e w' => (e = .returned (.bool false) ∧ SepO W oo w' L) ∨ (e = .returned (.bool true) ∧ SepO W oo w' (L.set i (Hgg hb kc c (joinG G n)))) := by
  obtain ⟨hn0, hn1⟩ := hn
  have hw : wrap64 (1000 + n) = 1000 + n := by unfold wrap64; omega
  have hl := (List.getElem?_eq_some_iff.1 hi).1
  have HI := Lib.hid hi
  have H := Lib.hid h
  have HL := Lib.hid hl
  have HH := Lib.hid hh
  have HF := Lib.hid hf
  clear h hi hl hh hf
  go_enter Tryz.func22, Tryz.ntmps22
  go_wp2_with fail
  refine (leaf_g (c := c) (kc := kc) 5 (1000 + n) 2 (by omega) (by omega) (by omega) HH.out HF.out H.out i HI.out).mono ?_
  rintro e w1 (⟨rfl, h1⟩ | ⟨rfl, h1⟩)
  · have H1 := Lib.hid h1
    clear h1 H
    go_wp2_with fail
    go_ret
    exact .inl ⟨rfl, H1.out⟩
  · have H1 := Lib.hid h1
    clear h1 H
    go_wp2_with fail
    refine (do_g (c := c) (kc := kc) 3 5 0 0 0 (wf5 (by omega) (by omega) (by omega) (by omega) (by omega)) (by decide) H1.out i (by rw [List.getElem?_set_self HL.out])).mono ?_
    rintro e w2 ⟨rfl, h2⟩
    rw [List.set_set] at h2
    have H2 := Lib.hid h2
    obtain ⟨a1, ha1⟩ : ∃ a, (toAn (Gr.gdo (leafG G 5 (1000 + n) 2) ⟨3, 5, 0, 0, 0⟩).1) = a := ⟨_, rfl⟩
    rw [ha1]
    clear h2 H1 ha1
    go_wp2_with fail
    refine (do_g (c := c) (kc := kc) 3 5 1 4 0 (wf5 (by omega) (by omega) (by omega) (by omega) (by omega)) (by decide) H2.out i (by rw [List.getElem?_set_self HL.out])).mono ?_
    rintro e w3 ⟨rfl, h3⟩
    rw [List.set_set] at h3
    have H3 := Lib.hid h3
    generalize (toAn (Gr.gdo (Gr.gdo (leafG G 5 (1000 + n) 2) ⟨3, 5, 0, 0, 0⟩).2 ⟨3, 5, 1, 4, 0⟩).1) = a2
    clear h3 H2
    go_wp2_with fail
    refine (do_g (c := c) (kc := kc) 7 4 5 0 0 (wf5 (by omega) (by omega) (by omega) (by omega) (by omega)) (by decide) H3.out i (by rw [List.getElem?_set_self HL.out])).mono ?_
    rintro e w4 ⟨rfl, h4⟩
    rw [List.set_set] at h4
    have H4 := Lib.hid h4
    generalize (toAn (Gr.gdo (Gr.gdo (Gr.gdo (leafG G 5 (1000 + n) 2) ⟨3, 5, 0, 0, 0⟩).2 ⟨3, 5, 1, 4, 0⟩).2 ⟨7, 4, 5, 0, 0⟩).1) = a3
    clear h4 H3
    go_wp2_with fail
    go_ret
    exact .inr ⟨rfl, H4.out⟩
end
end Go.Proofs.YtihmkkjmnbehbaaGreat.Wh
/- Slices of bools that read as lists. No condition. -/
set_option linter.unusedVariables false
namespace Go.Proofs.YtihmkkjmnbehbaaGreat.W
open Go.RowKit

/-- A slice of bools that reads as a list; its cells lie in a block of 'ok'. -/
def SB (w : World) (ok : Nat → Prop) (v : Value) (l : List Bool) : Prop :=
  ∃ (A : Option Addr) (c : Nat), v = .slice A l.length c ∧ l.length ≤ 9223372036854775807 ∧
    (0 < l.length → ∃ b o, A = some ⟨b, o, none⟩ ∧ ok b ∧ b < w.heap.size ∧ ∀ j, j < l.length → w.cell? ⟨b, o + j, none⟩ = some (.bool (l[j]?.getD false)))
theorem SB.keep {w w' : World} {ok ok' : Nat → Prop} {v : Value} {l : List Bool} (h : SB w ok v l) (hk : Keep ok' w w') (hn : ∀ i, ok i → ok' i → False) : SB w' ok v l := by
  obtain ⟨A, c, e, hl, hc⟩ := h
  refine ⟨A, c, e, hl, fun h0 => ?_⟩
  obtain ⟨b, o, hA, hb, hlt, hcell⟩ := hc h0
  exact ⟨b, o, hA, hb, Nat.lt_of_lt_of_le hlt hk.size, fun j hj => (World.cell?_of_block (hk.block b hlt (fun h' => hn b hb h'))).trans (hcell j hj)⟩
end Go.Proofs.YtihmkkjmnbehbaaGreat.W
/- Swap as a contract. Condition: what is taken in reads as lists. -/
set_option linter.unusedVariables false
set_option linter.unusedSimpArgs false
namespace Go.Proofs.YtihmkkjmnbehbaaGreat.Wh
open Go.RowKit Go.Proofs.YtihmkkjmnbehbaaGreat.W Go.Proofs.YtihmkkjmnbehbaaGreat.Sm
set_option maxRecDepth 20000 in
set_option maxHeartbeats 8000000 in
theorem Swap_calls (a b d e : Int) (ha : U8 a) (hb0 : U8 b) (hd : U8 d) (he : U8 e) (w : World) {v u : Value} {swaps : List Bool} {idle : List Int} (hq : SB w (fun i => i < w.heap.size) v swaps) (hv : SL w (fun i => i < w.heap.size) .u8 u idle) (hu : ∀ x ∈ idle, U8 x) : Calls Tryz.prog 8 #[.int .u8 a, .int .u8 b, .int .u8 d, .int .u8 e, v, u] w fun e' w' => e' = .returned (.bool true) ∧ Below w.heap.size w w' := by
  have hm : CFmay ({ cfg a b d e with h := 5, l := 3 } : CF) := by
    have hm0 := cfg_may ha hb0 hd he
    obtain ⟨k1, k2, k3⟩ := card_ok (a := a) (c := d) ha
    unfold U8 at ha hb0 hd he
    refine ⟨⟨?_, ?_, ?_, ?_, ?_, ?_, ?_, ?_, ?_, ?_, ?_, ?_, ?_, ?_, ?_, ?_, ?_, ?_, ?_, ?_, ?_, ?_, ?_⟩, ?_, ?_, ?_⟩ <;> simp only [cfg] <;> first | exact k1 | exact k2 | exact k3 | omega
  have hn0 : ∀ C : CF, ({ cfg a b d e with h := 5, l := 3 } : CF) = C → 12 ≤ C.mia ∧ 24 ≤ C.n ∧ C.h = 5 ∧ C.l = 3 := by
    rintro _ rfl
    unfold U8 at ha hb0 hd he
    (repeat' constructor) <;> (try simp only [cfg]) <;> omega
  have HM := Lib.hid hm
  have HF := Lib.hid hn0
  obtain ⟨A, cp, rfl, hlen, hcl⟩ := hq
  have HCL := Lib.hid hcl
  have HV := Lib.hid hv
  have HU := Lib.hid hu
  clear hcl hu hv
  clear hm hn0
  go_enter Tryz.func8, Tryz.ntmps8
  go_wp2_with fail
  refine (config_l (a := a) (b := b) (d := d) (e := e) ha hb0 hd he (Sep.nil w)).mono ?_
  rintro e1 w1 ⟨rfl, h1⟩
  have H1 := Lib.hid h1
  clear h1
  go_wp2_with fail
  refine (hNew_g (c := ({ cfg a b d e with h := 5, l := 3 } : CF)) HM.out (H1.out.alloc _)).mono ?_
  rintro e2 w2 ⟨hb, kc, rfl, h2⟩
  obtain ⟨c, hc⟩ : ∃ c : CF, ({ cfg a b d e with h := 5, l := 3 } : CF) = c := ⟨_, rfl⟩
  have hF := HF.out c hc
  have hm := HM.out
  rw [hc] at h2 hm
  replace h2 : SepO w (fun _ => False) w2 [Hst hb kc c (⟨[], [0, 0, 0, 0, 0], 3⟩ : Gr.GS) 0] := by
    have e : (⟨[], [0, 0, 0, 0, 0], 3⟩ : Gr.GS) = Gr.gnew c.h c.l := by rw [← hc]; rfl
    rw [e]; exact h2
  have H2 := Lib.hid h2
  have HOK := Lib.hid hm.ok
  clear h2 H1 HM HF hm
  go_wp2_with fail
  refine (wakes_l H2.out).mono ?_
  rintro e3 w3 ⟨rfl, h3⟩
  have H3 := Lib.hid h3
  clear h3 H2
  go_wp2_with fail
  obtain ⟨f1, f2, f3, f4⟩ := hF
  have fE := run_fE
  refine (leafF_g (c := c) (kc := kc) (G := (⟨[], [0, 0, 0, 0, 0], 3⟩ : Gr.GS)) (u := 0) 0 50 1 (by omega) (by omega) (by omega) (by omega) (by omega) (by omega) (by decide) (by decide) H3.out 0 rfl).mono ?_
  rintro e4 w4 ⟨rfl, h4⟩
  replace h4 : SepO w (fun _ => False) w4 [Hst hb kc c (⟨[⟨[0], [50]⟩], [1, 0, 0, 0, 0], 3⟩ : Gr.GS) 4] := h4
  have H4 := Lib.hid h4
  clear h4 H3
  go_wp2_with fail
  refine (leafF_g (c := c) (kc := kc) (G := (⟨[⟨[0], [50]⟩], [1, 0, 0, 0, 0], 3⟩ : Gr.GS)) (u := 4) 1 51 1 (by omega) (by omega) (by omega) (by omega) (by omega) (by omega) (by decide) (by decide) H4.out 0 rfl).mono ?_
  rintro e5 w5 ⟨rfl, h5⟩
  replace h5 : SepO w (fun _ => False) w5 [Hst hb kc c (⟨[⟨[0], [50]⟩, ⟨[0], [51]⟩], [1, 2, 0, 0, 0], 3⟩ : Gr.GS) 8] := h5
  have H5 := Lib.hid h5
  clear h5 H4
  go_wp2_with fail
  refine (leafF_g (c := c) (kc := kc) (G := (⟨[⟨[0], [50]⟩, ⟨[0], [51]⟩], [1, 2, 0, 0, 0], 3⟩ : Gr.GS)) (u := 8) 2 0 0 (by omega) (by omega) (by omega) (by omega) (by omega) (by omega) (by decide) (by decide) H5.out 0 rfl).mono ?_
  rintro e6 w6 ⟨rfl, h6⟩
  replace h6 : SepO w (fun _ => False) w6 [Hst hb kc c (⟨[⟨[0], [50]⟩, ⟨[0], [51]⟩, ⟨[], [0]⟩], [1, 2, 3, 0, 0], 3⟩ : Gr.GS) 11] := h6
  have H6 := Lib.hid h6
  clear h6 H5
  go_wp2_with fail
  refine (leafF_g (c := c) (kc := kc) (G := (⟨[⟨[0], [50]⟩, ⟨[0], [51]⟩, ⟨[], [0]⟩], [1, 2, 3, 0, 0], 3⟩ : Gr.GS)) (u := 11) 3 1 0 (by omega) (by omega) (by omega) (by omega) (by omega) (by omega) (by decide) (by decide) H6.out 0 rfl).mono ?_
  rintro e7 w7 ⟨rfl, h7⟩
  replace h7 : SepO w (fun _ => False) w7 [Hst hb kc c (⟨[⟨[0], [50]⟩, ⟨[0], [51]⟩, ⟨[], [0]⟩, ⟨[], [1]⟩], [1, 2, 3, 4, 0], 3⟩ : Gr.GS) 14] := h7
  replace h7 := hst_gg (i := 0) h7 rfl
  replace h7 : SepO w (fun _ => False) w7 [Hgg hb kc c (⟨[⟨[0], [50]⟩, ⟨[0], [51]⟩, ⟨[], [0]⟩, ⟨[], [1]⟩], [1, 2, 3, 4, 0], 3⟩ : Gr.GS)] := h7
  have H7 := Lib.hid h7
  clear h7 H6
  go_wp2_with fail
  refine (do_g (c := c) (kc := kc) (G := (⟨[⟨[0], [50]⟩, ⟨[0], [51]⟩, ⟨[], [0]⟩, ⟨[], [1]⟩], [1, 2, 3, 4, 0], 3⟩ : Gr.GS)) 3 0 0 2 0 (wf5 (by omega) (by omega) (by omega) (by omega) (by omega)) (by decide) H7.out 0 rfl).mono ?_
  rintro e8 w8 ⟨rfl, h8⟩
  replace h8 : SepO w (fun _ => False) w8 [Hgg hb kc c (⟨[⟨[3], [50]⟩, ⟨[0], [51]⟩, ⟨[], [0]⟩, ⟨[], [1]⟩], [1, 2, 3, 4, 0], 3⟩ : Gr.GS)] := h8
  rw [show (Gr.gdo (⟨[⟨[0], [50]⟩, ⟨[0], [51]⟩, ⟨[], [0]⟩, ⟨[], [1]⟩], [1, 2, 3, 4, 0], 3⟩ : Gr.GS) ⟨3, 0, 0, 2, 0⟩).1 = (⟨0, false, 0, 0⟩ : Gr.GA) from rfl]
  simp only [toAn]
  have H8 := Lib.hid h8
  clear h8 H7
  go_wp2_with fail
  refine (do_g (c := c) (kc := kc) (G := (⟨[⟨[3], [50]⟩, ⟨[0], [51]⟩, ⟨[], [0]⟩, ⟨[], [1]⟩], [1, 2, 3, 4, 0], 3⟩ : Gr.GS)) 3 1 0 3 0 (wf5 (by omega) (by omega) (by omega) (by omega) (by omega)) (by decide) H8.out 0 rfl).mono ?_
  rintro e9 w9 ⟨rfl, h9⟩
  replace h9 : SepO w (fun _ => False) w9 [Hgg hb kc c (⟨[⟨[3], [50]⟩, ⟨[4], [51]⟩, ⟨[], [0]⟩, ⟨[], [1]⟩], [1, 2, 3, 4, 0], 3⟩ : Gr.GS)] := h9
  rw [show (Gr.gdo (⟨[⟨[3], [50]⟩, ⟨[0], [51]⟩, ⟨[], [0]⟩, ⟨[], [1]⟩], [1, 2, 3, 4, 0], 3⟩ : Gr.GS) ⟨3, 1, 0, 3, 0⟩).1 = (⟨0, false, 0, 0⟩ : Gr.GA) from rfl]
  simp only [toAn]
  have H9 := Lib.hid h9
  clear h9 H8
  go_wp2_with fail
  refine (do_g (c := c) (kc := kc) (G := (⟨[⟨[3], [50]⟩, ⟨[4], [51]⟩, ⟨[], [0]⟩, ⟨[], [1]⟩], [1, 2, 3, 4, 0], 3⟩ : Gr.GS)) 6 2 0 0 0 (wf5 (by omega) (by omega) (by omega) (by omega) (by omega)) (by decide) H9.out 0 rfl).mono ?_
  rintro e10 w10 ⟨rfl, h10⟩
  replace h10 : SepO w (fun _ => False) w10 [Hgg hb kc c (⟨[⟨[3], [50]⟩, ⟨[4], [51]⟩, ⟨[], [0]⟩, ⟨[], [1]⟩], [1, 2, 0, 4, 0], 3⟩ : Gr.GS)] := h10
  rw [show (Gr.gdo (⟨[⟨[3], [50]⟩, ⟨[4], [51]⟩, ⟨[], [0]⟩, ⟨[], [1]⟩], [1, 2, 3, 4, 0], 3⟩ : Gr.GS) ⟨6, 2, 0, 0, 0⟩).1 = (⟨0, false, 0, 0⟩ : Gr.GA) from rfl]
  simp only [toAn]
  have H10 := Lib.hid h10
  clear h10 H9
  go_wp2_with fail
  refine (do_g (c := c) (kc := kc) (G := (⟨[⟨[3], [50]⟩, ⟨[4], [51]⟩, ⟨[], [0]⟩, ⟨[], [1]⟩], [1, 2, 0, 4, 0], 3⟩ : Gr.GS)) 6 3 0 0 0 (wf5 (by omega) (by omega) (by omega) (by omega) (by omega)) (by decide) H10.out 0 rfl).mono ?_
  rintro e11 w11 ⟨rfl, h11⟩
  replace h11 : SepO w (fun _ => False) w11 [Hgg hb kc c (⟨[⟨[3], [50]⟩, ⟨[4], [51]⟩, ⟨[], [0]⟩, ⟨[], [1]⟩], [1, 2, 0, 0, 0], 3⟩ : Gr.GS)] := h11
  rw [show (Gr.gdo (⟨[⟨[3], [50]⟩, ⟨[4], [51]⟩, ⟨[], [0]⟩, ⟨[], [1]⟩], [1, 2, 0, 4, 0], 3⟩ : Gr.GS) ⟨6, 3, 0, 0, 0⟩).1 = (⟨0, false, 0, 0⟩ : Gr.GA) from rfl]
  simp only [toAn]
  have H11 := Lib.hid h11
  clear h11 H10
  go_wp2_with fail
  go_loopg [16, 17, 18, 19] 60 (fun gk s16 i s18 s19 wr => ∃ (j : Nat) (t : Bool), j + gk = 60 ∧ i = .int .i64 j ∧ s16 = .bool t ∧ Sep w wr [Hgg hb kc c (⟨[⟨[(if t then 4 else 3)], [50]⟩, ⟨[(if t then 3 else 4)], [51]⟩, ⟨[], [0]⟩, ⟨[], [1]⟩], [1, 2, 0, 0, 0], 3⟩ : Gr.GS)])
  case atStart => exact ⟨0, false, by omega, rfl, rfl, H11.out⟩
  case round =>
    clear H11
    obtain ⟨j, t, hj, rfl, rfl, h⟩ := hrel
    have HJ := Lib.hid hj
    have hj60 : j ≤ 60 := by omega
    clear hj
    by_cases hlt : j < swaps.length ∧ j < 60
    · obtain ⟨hlt, hlt2⟩ := hlt
      have e60 : decide ((j : Int) < 60) = true := by simp; omega
      obtain ⟨bs, os, rfl, hbl, hbl2, hcell⟩ := HCL.out (by omega)
      have c0 := hcell j hlt
      have HCC : Hid (∀ wq, Keep (fun _ => False) w wq → wq.cell? ⟨bs, os + j, none⟩ = some (.bool (swaps[j]?.getD false)) ∧ bs < wq.heap.size) := Lib.hid (fun wq hk => ⟨(World.cell?_of_block (hk.block bs hbl2 (fun h => h))).trans c0, by have := hk.size; omega⟩)
      have hj1 : wrap64 ((j : Int) + 1) = ((j + 1 : Nat) : Int) := by unfold wrap64; omega
      generalize swaps[j]?.getD false = q at c0 HCC
      have H20 := Lib.hid h
      clear h hcell c0
      cases t <;> cases q
      · as_aux_lemma =>
        go_wp2_with fail
        refine (stir_g (c := c) (kc := kc) (G := (⟨[⟨[3], [50]⟩, ⟨[4], [51]⟩, ⟨[], [0]⟩, ⟨[], [1]⟩], [1, 2, 0, 0, 0], 3⟩ : Gr.GS)) (j) (by omega) (HV.out.keep H20.out.keep0 (fun _ _ h => h)) HU.out H20.out 0 rfl).mono ?_
        rintro e21 w21 ⟨rfl, h21⟩
        have H21 := Lib.hid h21
        clear h21 H20
        go_wp2_with fail
        refine (do_g (c := c) (kc := kc) (G := (⟨[⟨[3], [50]⟩, ⟨[4], [51]⟩, ⟨[], [0]⟩, ⟨[], [1]⟩], [1, 2, 0, 0, 0], 3⟩ : Gr.GS)) 2 2 0 0 0 (wf5 (by omega) (by omega) (by omega) (by omega) (by omega)) (by decide) H21.out 0 rfl).mono ?_
        rintro e22 w22 ⟨rfl, h22⟩
        replace h22 : SepO w (fun _ => False) w22 [Hgg hb kc c (⟨[⟨[3], [50]⟩, ⟨[4], [51]⟩, ⟨[], [0]⟩, ⟨[], [1]⟩], [1, 2, 3, 0, 0], 3⟩ : Gr.GS)] := h22
        rw [show (Gr.gdo (⟨[⟨[3], [50]⟩, ⟨[4], [51]⟩, ⟨[], [0]⟩, ⟨[], [1]⟩], [1, 2, 0, 0, 0], 3⟩ : Gr.GS) ⟨2, 2, 0, 0, 0⟩).1 = (⟨0, false, 0, 0⟩ : Gr.GA) from rfl]
        simp only [toAn]
        have H22 := Lib.hid h22
        clear h22 H21
        go_wp2_with fail
        refine (do_g (c := c) (kc := kc) (G := (⟨[⟨[3], [50]⟩, ⟨[4], [51]⟩, ⟨[], [0]⟩, ⟨[], [1]⟩], [1, 2, 3, 0, 0], 3⟩ : Gr.GS)) 2 3 1 0 0 (wf5 (by omega) (by omega) (by omega) (by omega) (by omega)) (by decide) H22.out 0 rfl).mono ?_
        rintro e23 w23 ⟨rfl, h23⟩
        replace h23 : SepO w (fun _ => False) w23 [Hgg hb kc c (⟨[⟨[3], [50]⟩, ⟨[4], [51]⟩, ⟨[], [0]⟩, ⟨[], [1]⟩], [1, 2, 3, 4, 0], 3⟩ : Gr.GS)] := h23
        rw [show (Gr.gdo (⟨[⟨[3], [50]⟩, ⟨[4], [51]⟩, ⟨[], [0]⟩, ⟨[], [1]⟩], [1, 2, 3, 0, 0], 3⟩ : Gr.GS) ⟨2, 3, 1, 0, 0⟩).1 = (⟨0, false, 0, 0⟩ : Gr.GA) from rfl]
        simp only [toAn]
        have H23 := Lib.hid h23
        clear h23 H22
        obtain ⟨cq, cql⟩ := HCC.out _ H23.out.keep0
        clear HCC
        go_wp2_with fail
        refine (do_g (c := c) (kc := kc) (G := (⟨[⟨[3], [50]⟩, ⟨[4], [51]⟩, ⟨[], [0]⟩, ⟨[], [1]⟩], [1, 2, 3, 4, 0], 3⟩ : Gr.GS)) 6 2 0 0 0 (wf5 (by omega) (by omega) (by omega) (by omega) (by omega)) (by decide) H23.out 0 rfl).mono ?_
        rintro e24 w24 ⟨rfl, h24⟩
        replace h24 : SepO w (fun _ => False) w24 [Hgg hb kc c (⟨[⟨[3], [50]⟩, ⟨[4], [51]⟩, ⟨[], [0]⟩, ⟨[], [1]⟩], [1, 2, 0, 4, 0], 3⟩ : Gr.GS)] := h24
        rw [show (Gr.gdo (⟨[⟨[3], [50]⟩, ⟨[4], [51]⟩, ⟨[], [0]⟩, ⟨[], [1]⟩], [1, 2, 3, 4, 0], 3⟩ : Gr.GS) ⟨6, 2, 0, 0, 0⟩).1 = (⟨0, false, 0, 0⟩ : Gr.GA) from rfl]
        simp only [toAn]
        have H24 := Lib.hid h24
        clear h24 H23
        go_wp2_with fail
        refine (do_g (c := c) (kc := kc) (G := (⟨[⟨[3], [50]⟩, ⟨[4], [51]⟩, ⟨[], [0]⟩, ⟨[], [1]⟩], [1, 2, 0, 4, 0], 3⟩ : Gr.GS)) 6 3 0 0 0 (wf5 (by omega) (by omega) (by omega) (by omega) (by omega)) (by decide) H24.out 0 rfl).mono ?_
        rintro e25 w25 ⟨rfl, h25⟩
        replace h25 : SepO w (fun _ => False) w25 [Hgg hb kc c (⟨[⟨[3], [50]⟩, ⟨[4], [51]⟩, ⟨[], [0]⟩, ⟨[], [1]⟩], [1, 2, 0, 0, 0], 3⟩ : Gr.GS)] := h25
        rw [show (Gr.gdo (⟨[⟨[3], [50]⟩, ⟨[4], [51]⟩, ⟨[], [0]⟩, ⟨[], [1]⟩], [1, 2, 0, 4, 0], 3⟩ : Gr.GS) ⟨6, 3, 0, 0, 0⟩).1 = (⟨0, false, 0, 0⟩ : Gr.GA) from rfl]
        simp only [toAn]
        have H25 := Lib.hid h25
        clear h25 H24
        go_wp2_with fail
        refine (stir_g (c := c) (kc := kc) (G := (⟨[⟨[3], [50]⟩, ⟨[4], [51]⟩, ⟨[], [0]⟩, ⟨[], [1]⟩], [1, 2, 0, 0, 0], 3⟩ : Gr.GS)) (j + 1) (by omega) (HV.out.keep H25.out.keep0 (fun _ _ h => h)) HU.out H25.out 0 rfl).mono ?_
        rintro e26 w26 ⟨rfl, h26⟩
        have H26 := Lib.hid h26
        clear h26 H25
        go_wp2_with fail
        refine (do_g (c := c) (kc := kc) (G := (⟨[⟨[3], [50]⟩, ⟨[4], [51]⟩, ⟨[], [0]⟩, ⟨[], [1]⟩], [1, 2, 0, 0, 0], 3⟩ : Gr.GS)) 2 4 0 0 0 (wf5 (by omega) (by omega) (by omega) (by omega) (by omega)) (by decide) H26.out 0 rfl).mono ?_
        rintro e27 w27 ⟨rfl, h27⟩
        replace h27 : SepO w (fun _ => False) w27 [Hgg hb kc c (⟨[⟨[3], [50]⟩, ⟨[4], [51]⟩, ⟨[], [0]⟩, ⟨[], [1]⟩], [1, 2, 0, 0, 3], 3⟩ : Gr.GS)] := h27
        rw [show (Gr.gdo (⟨[⟨[3], [50]⟩, ⟨[4], [51]⟩, ⟨[], [0]⟩, ⟨[], [1]⟩], [1, 2, 0, 0, 0], 3⟩ : Gr.GS) ⟨2, 4, 0, 0, 0⟩).1 = (⟨0, false, 0, 0⟩ : Gr.GA) from rfl]
        simp only [toAn]
        have H27 := Lib.hid h27
        clear h27 H26
        go_wp2_with fail
        refine (do_g (c := c) (kc := kc) (G := (⟨[⟨[3], [50]⟩, ⟨[4], [51]⟩, ⟨[], [0]⟩, ⟨[], [1]⟩], [1, 2, 0, 0, 3], 3⟩ : Gr.GS)) 4 4 0 0 0 (wf5 (by omega) (by omega) (by omega) (by omega) (by omega)) (by decide) H27.out 0 rfl).mono ?_
        rintro e28 w28 ⟨rfl, h28⟩
        replace h28 : SepO w (fun _ => False) w28 [Hgg hb kc c (⟨[⟨[3], [50]⟩, ⟨[4], [51]⟩, ⟨[], [0]⟩, ⟨[], [1]⟩], [1, 2, 0, 0, 3], 3⟩ : Gr.GS)] := h28
        rw [show (Gr.gdo (⟨[⟨[3], [50]⟩, ⟨[4], [51]⟩, ⟨[], [0]⟩, ⟨[], [1]⟩], [1, 2, 0, 0, 3], 3⟩ : Gr.GS) ⟨4, 4, 0, 0, 0⟩).1 = (⟨0, false, 0, 0⟩ : Gr.GA) from rfl]
        simp only [toAn]
        have h28 := h28.new_blk 33 #[i6 0, .bool false, i6 0, .int .u64 0]
        obtain ⟨z28, hz28⟩ : ∃ z, w28.heap.size = z := ⟨_, rfl⟩
        rw [hz28] at h28
        have H28 := Lib.hid h28
        clear h28 H27
        have bb0 := H28.out.blk (g := z28) (t := 33) (cs := #[i6 0, .bool false, i6 0, .int .u64 0]) 1 rfl
        have c0_0 := bb0.cell 0
        have c0_1 := bb0.cell 1
        have c0_2 := bb0.cell 2
        have c0_3 := bb0.cell 3
        have cl0 := bb0.lt
        simp at c0_0 c0_1 c0_2 c0_3
        clear bb0
        go_wp2_with fail
        refine (do_g (c := c) (kc := kc) (G := (⟨[⟨[3], [50]⟩, ⟨[4], [51]⟩, ⟨[], [0]⟩, ⟨[], [1]⟩], [1, 2, 0, 0, 3], 3⟩ : Gr.GS)) 6 4 0 0 0 (wf5 (by omega) (by omega) (by omega) (by omega) (by omega)) (by decide) H28.out 0 rfl).mono ?_
        rintro e29 w29 ⟨rfl, h29⟩
        replace h29 : SepO w (fun _ => False) w29 [Hgg hb kc c (⟨[⟨[3], [50]⟩, ⟨[4], [51]⟩, ⟨[], [0]⟩, ⟨[], [1]⟩], [1, 2, 0, 0, 0], 3⟩ : Gr.GS), blkP z28 33 #[i6 0, .bool false, i6 0, .int .u64 0]] := h29
        rw [show (Gr.gdo (⟨[⟨[3], [50]⟩, ⟨[4], [51]⟩, ⟨[], [0]⟩, ⟨[], [1]⟩], [1, 2, 0, 0, 3], 3⟩ : Gr.GS) ⟨6, 4, 0, 0, 0⟩).1 = (⟨0, false, 0, 0⟩ : Gr.GA) from rfl]
        simp only [toAn]
        have H29 := Lib.hid h29
        clear h29 H28
        go_wp2_with fail
        have H99 := Lib.hid (H29.out.first (l := [_]) (m := [_]))
        go_roundg (gk - 1)
        case measure => have := HJ.out; omega
        case rel => exact ⟨j + 1, false, by have := HJ.out; omega, by go_num, rfl, H99.out⟩
      · as_aux_lemma =>
        go_wp2_with fail
        refine (stir_g (c := c) (kc := kc) (G := (⟨[⟨[3], [50]⟩, ⟨[4], [51]⟩, ⟨[], [0]⟩, ⟨[], [1]⟩], [1, 2, 0, 0, 0], 3⟩ : Gr.GS)) (j) (by omega) (HV.out.keep H20.out.keep0 (fun _ _ h => h)) HU.out H20.out 0 rfl).mono ?_
        rintro e21 w21 ⟨rfl, h21⟩
        have H21 := Lib.hid h21
        clear h21 H20
        go_wp2_with fail
        refine (do_g (c := c) (kc := kc) (G := (⟨[⟨[3], [50]⟩, ⟨[4], [51]⟩, ⟨[], [0]⟩, ⟨[], [1]⟩], [1, 2, 0, 0, 0], 3⟩ : Gr.GS)) 2 2 0 0 0 (wf5 (by omega) (by omega) (by omega) (by omega) (by omega)) (by decide) H21.out 0 rfl).mono ?_
        rintro e22 w22 ⟨rfl, h22⟩
        replace h22 : SepO w (fun _ => False) w22 [Hgg hb kc c (⟨[⟨[3], [50]⟩, ⟨[4], [51]⟩, ⟨[], [0]⟩, ⟨[], [1]⟩], [1, 2, 3, 0, 0], 3⟩ : Gr.GS)] := h22
        rw [show (Gr.gdo (⟨[⟨[3], [50]⟩, ⟨[4], [51]⟩, ⟨[], [0]⟩, ⟨[], [1]⟩], [1, 2, 0, 0, 0], 3⟩ : Gr.GS) ⟨2, 2, 0, 0, 0⟩).1 = (⟨0, false, 0, 0⟩ : Gr.GA) from rfl]
        simp only [toAn]
        have H22 := Lib.hid h22
        clear h22 H21
        go_wp2_with fail
        refine (do_g (c := c) (kc := kc) (G := (⟨[⟨[3], [50]⟩, ⟨[4], [51]⟩, ⟨[], [0]⟩, ⟨[], [1]⟩], [1, 2, 3, 0, 0], 3⟩ : Gr.GS)) 2 3 1 0 0 (wf5 (by omega) (by omega) (by omega) (by omega) (by omega)) (by decide) H22.out 0 rfl).mono ?_
        rintro e23 w23 ⟨rfl, h23⟩
        replace h23 : SepO w (fun _ => False) w23 [Hgg hb kc c (⟨[⟨[3], [50]⟩, ⟨[4], [51]⟩, ⟨[], [0]⟩, ⟨[], [1]⟩], [1, 2, 3, 4, 0], 3⟩ : Gr.GS)] := h23
        rw [show (Gr.gdo (⟨[⟨[3], [50]⟩, ⟨[4], [51]⟩, ⟨[], [0]⟩, ⟨[], [1]⟩], [1, 2, 3, 0, 0], 3⟩ : Gr.GS) ⟨2, 3, 1, 0, 0⟩).1 = (⟨0, false, 0, 0⟩ : Gr.GA) from rfl]
        simp only [toAn]
        have H23 := Lib.hid h23
        clear h23 H22
        obtain ⟨cq, cql⟩ := HCC.out _ H23.out.keep0
        clear HCC
        go_wp2_with fail
        refine (do_g (c := c) (kc := kc) (G := (⟨[⟨[3], [50]⟩, ⟨[4], [51]⟩, ⟨[], [0]⟩, ⟨[], [1]⟩], [1, 2, 3, 4, 0], 3⟩ : Gr.GS)) 3 0 0 3 0 (wf5 (by omega) (by omega) (by omega) (by omega) (by omega)) (by decide) H23.out 0 rfl).mono ?_
        rintro e24 w24 ⟨rfl, h24⟩
        replace h24 : SepO w (fun _ => False) w24 [Hgg hb kc c (⟨[⟨[4], [50]⟩, ⟨[4], [51]⟩, ⟨[], [0]⟩, ⟨[], [1]⟩], [1, 2, 3, 4, 0], 3⟩ : Gr.GS)] := h24
        rw [show (Gr.gdo (⟨[⟨[3], [50]⟩, ⟨[4], [51]⟩, ⟨[], [0]⟩, ⟨[], [1]⟩], [1, 2, 3, 4, 0], 3⟩ : Gr.GS) ⟨3, 0, 0, 3, 0⟩).1 = (⟨0, false, 0, 0⟩ : Gr.GA) from rfl]
        simp only [toAn]
        have H24 := Lib.hid h24
        clear h24 H23
        go_wp2_with fail
        refine (do_g (c := c) (kc := kc) (G := (⟨[⟨[4], [50]⟩, ⟨[4], [51]⟩, ⟨[], [0]⟩, ⟨[], [1]⟩], [1, 2, 3, 4, 0], 3⟩ : Gr.GS)) 3 1 0 2 0 (wf5 (by omega) (by omega) (by omega) (by omega) (by omega)) (by decide) H24.out 0 rfl).mono ?_
        rintro e25 w25 ⟨rfl, h25⟩
        replace h25 : SepO w (fun _ => False) w25 [Hgg hb kc c (⟨[⟨[4], [50]⟩, ⟨[3], [51]⟩, ⟨[], [0]⟩, ⟨[], [1]⟩], [1, 2, 3, 4, 0], 3⟩ : Gr.GS)] := h25
        rw [show (Gr.gdo (⟨[⟨[4], [50]⟩, ⟨[4], [51]⟩, ⟨[], [0]⟩, ⟨[], [1]⟩], [1, 2, 3, 4, 0], 3⟩ : Gr.GS) ⟨3, 1, 0, 2, 0⟩).1 = (⟨0, false, 0, 0⟩ : Gr.GA) from rfl]
        simp only [toAn]
        have H25 := Lib.hid h25
        clear h25 H24
        go_wp2_with fail
        refine (do_g (c := c) (kc := kc) (G := (⟨[⟨[4], [50]⟩, ⟨[3], [51]⟩, ⟨[], [0]⟩, ⟨[], [1]⟩], [1, 2, 3, 4, 0], 3⟩ : Gr.GS)) 6 2 0 0 0 (wf5 (by omega) (by omega) (by omega) (by omega) (by omega)) (by decide) H25.out 0 rfl).mono ?_
        rintro e26 w26 ⟨rfl, h26⟩
        replace h26 : SepO w (fun _ => False) w26 [Hgg hb kc c (⟨[⟨[4], [50]⟩, ⟨[3], [51]⟩, ⟨[], [0]⟩, ⟨[], [1]⟩], [1, 2, 0, 4, 0], 3⟩ : Gr.GS)] := h26
        rw [show (Gr.gdo (⟨[⟨[4], [50]⟩, ⟨[3], [51]⟩, ⟨[], [0]⟩, ⟨[], [1]⟩], [1, 2, 3, 4, 0], 3⟩ : Gr.GS) ⟨6, 2, 0, 0, 0⟩).1 = (⟨0, false, 0, 0⟩ : Gr.GA) from rfl]
        simp only [toAn]
        have H26 := Lib.hid h26
        clear h26 H25
        go_wp2_with fail
        refine (do_g (c := c) (kc := kc) (G := (⟨[⟨[4], [50]⟩, ⟨[3], [51]⟩, ⟨[], [0]⟩, ⟨[], [1]⟩], [1, 2, 0, 4, 0], 3⟩ : Gr.GS)) 6 3 0 0 0 (wf5 (by omega) (by omega) (by omega) (by omega) (by omega)) (by decide) H26.out 0 rfl).mono ?_
        rintro e27 w27 ⟨rfl, h27⟩
        replace h27 : SepO w (fun _ => False) w27 [Hgg hb kc c (⟨[⟨[4], [50]⟩, ⟨[3], [51]⟩, ⟨[], [0]⟩, ⟨[], [1]⟩], [1, 2, 0, 0, 0], 3⟩ : Gr.GS)] := h27
        rw [show (Gr.gdo (⟨[⟨[4], [50]⟩, ⟨[3], [51]⟩, ⟨[], [0]⟩, ⟨[], [1]⟩], [1, 2, 0, 4, 0], 3⟩ : Gr.GS) ⟨6, 3, 0, 0, 0⟩).1 = (⟨0, false, 0, 0⟩ : Gr.GA) from rfl]
        simp only [toAn]
        have H27 := Lib.hid h27
        clear h27 H26
        go_wp2_with fail
        refine (stir_g (c := c) (kc := kc) (G := (⟨[⟨[4], [50]⟩, ⟨[3], [51]⟩, ⟨[], [0]⟩, ⟨[], [1]⟩], [1, 2, 0, 0, 0], 3⟩ : Gr.GS)) (j + 1) (by omega) (HV.out.keep H27.out.keep0 (fun _ _ h => h)) HU.out H27.out 0 rfl).mono ?_
        rintro e28 w28 ⟨rfl, h28⟩
        have H28 := Lib.hid h28
        clear h28 H27
        go_wp2_with fail
        refine (do_g (c := c) (kc := kc) (G := (⟨[⟨[4], [50]⟩, ⟨[3], [51]⟩, ⟨[], [0]⟩, ⟨[], [1]⟩], [1, 2, 0, 0, 0], 3⟩ : Gr.GS)) 2 4 0 0 0 (wf5 (by omega) (by omega) (by omega) (by omega) (by omega)) (by decide) H28.out 0 rfl).mono ?_
        rintro e29 w29 ⟨rfl, h29⟩
        replace h29 : SepO w (fun _ => False) w29 [Hgg hb kc c (⟨[⟨[4], [50]⟩, ⟨[3], [51]⟩, ⟨[], [0]⟩, ⟨[], [1]⟩], [1, 2, 0, 0, 4], 3⟩ : Gr.GS)] := h29
        rw [show (Gr.gdo (⟨[⟨[4], [50]⟩, ⟨[3], [51]⟩, ⟨[], [0]⟩, ⟨[], [1]⟩], [1, 2, 0, 0, 0], 3⟩ : Gr.GS) ⟨2, 4, 0, 0, 0⟩).1 = (⟨0, false, 0, 0⟩ : Gr.GA) from rfl]
        simp only [toAn]
        have H29 := Lib.hid h29
        clear h29 H28
        go_wp2_with fail
        refine (do_g (c := c) (kc := kc) (G := (⟨[⟨[4], [50]⟩, ⟨[3], [51]⟩, ⟨[], [0]⟩, ⟨[], [1]⟩], [1, 2, 0, 0, 4], 3⟩ : Gr.GS)) 4 4 0 0 0 (wf5 (by omega) (by omega) (by omega) (by omega) (by omega)) (by decide) H29.out 0 rfl).mono ?_
        rintro e30 w30 ⟨rfl, h30⟩
        replace h30 : SepO w (fun _ => False) w30 [Hgg hb kc c (⟨[⟨[4], [50]⟩, ⟨[3], [51]⟩, ⟨[], [0]⟩, ⟨[], [1]⟩], [1, 2, 0, 0, 4], 3⟩ : Gr.GS)] := h30
        rw [show (Gr.gdo (⟨[⟨[4], [50]⟩, ⟨[3], [51]⟩, ⟨[], [0]⟩, ⟨[], [1]⟩], [1, 2, 0, 0, 4], 3⟩ : Gr.GS) ⟨4, 4, 0, 0, 0⟩).1 = (⟨0, false, 0, 1⟩ : Gr.GA) from rfl]
        simp only [toAn]
        have h30 := h30.new_blk 33 #[i6 0, .bool false, i6 0, .int .u64 1]
        obtain ⟨z30, hz30⟩ : ∃ z, w30.heap.size = z := ⟨_, rfl⟩
        rw [hz30] at h30
        have H30 := Lib.hid h30
        clear h30 H29
        have bb0 := H30.out.blk (g := z30) (t := 33) (cs := #[i6 0, .bool false, i6 0, .int .u64 1]) 1 rfl
        have c0_0 := bb0.cell 0
        have c0_1 := bb0.cell 1
        have c0_2 := bb0.cell 2
        have c0_3 := bb0.cell 3
        have cl0 := bb0.lt
        simp at c0_0 c0_1 c0_2 c0_3
        clear bb0
        go_wp2_with fail
        refine (do_g (c := c) (kc := kc) (G := (⟨[⟨[4], [50]⟩, ⟨[3], [51]⟩, ⟨[], [0]⟩, ⟨[], [1]⟩], [1, 2, 0, 0, 4], 3⟩ : Gr.GS)) 6 4 0 0 0 (wf5 (by omega) (by omega) (by omega) (by omega) (by omega)) (by decide) H30.out 0 rfl).mono ?_
        rintro e31 w31 ⟨rfl, h31⟩
        replace h31 : SepO w (fun _ => False) w31 [Hgg hb kc c (⟨[⟨[4], [50]⟩, ⟨[3], [51]⟩, ⟨[], [0]⟩, ⟨[], [1]⟩], [1, 2, 0, 0, 0], 3⟩ : Gr.GS), blkP z30 33 #[i6 0, .bool false, i6 0, .int .u64 1]] := h31
        rw [show (Gr.gdo (⟨[⟨[4], [50]⟩, ⟨[3], [51]⟩, ⟨[], [0]⟩, ⟨[], [1]⟩], [1, 2, 0, 0, 4], 3⟩ : Gr.GS) ⟨6, 4, 0, 0, 0⟩).1 = (⟨0, false, 0, 0⟩ : Gr.GA) from rfl]
        simp only [toAn]
        have H31 := Lib.hid h31
        clear h31 H30
        go_wp2_with fail
        have H99 := Lib.hid (H31.out.first (l := [_]) (m := [_]))
        go_roundg (gk - 1)
        case measure => have := HJ.out; omega
        case rel => exact ⟨j + 1, true, by have := HJ.out; omega, by go_num, rfl, H99.out⟩
      · as_aux_lemma =>
        go_wp2_with fail
        refine (stir_g (c := c) (kc := kc) (G := (⟨[⟨[4], [50]⟩, ⟨[3], [51]⟩, ⟨[], [0]⟩, ⟨[], [1]⟩], [1, 2, 0, 0, 0], 3⟩ : Gr.GS)) (j) (by omega) (HV.out.keep H20.out.keep0 (fun _ _ h => h)) HU.out H20.out 0 rfl).mono ?_
        rintro e21 w21 ⟨rfl, h21⟩
        have H21 := Lib.hid h21
        clear h21 H20
        go_wp2_with fail
        refine (do_g (c := c) (kc := kc) (G := (⟨[⟨[4], [50]⟩, ⟨[3], [51]⟩, ⟨[], [0]⟩, ⟨[], [1]⟩], [1, 2, 0, 0, 0], 3⟩ : Gr.GS)) 2 2 0 0 0 (wf5 (by omega) (by omega) (by omega) (by omega) (by omega)) (by decide) H21.out 0 rfl).mono ?_
        rintro e22 w22 ⟨rfl, h22⟩
        replace h22 : SepO w (fun _ => False) w22 [Hgg hb kc c (⟨[⟨[4], [50]⟩, ⟨[3], [51]⟩, ⟨[], [0]⟩, ⟨[], [1]⟩], [1, 2, 4, 0, 0], 3⟩ : Gr.GS)] := h22
        rw [show (Gr.gdo (⟨[⟨[4], [50]⟩, ⟨[3], [51]⟩, ⟨[], [0]⟩, ⟨[], [1]⟩], [1, 2, 0, 0, 0], 3⟩ : Gr.GS) ⟨2, 2, 0, 0, 0⟩).1 = (⟨0, false, 0, 0⟩ : Gr.GA) from rfl]
        simp only [toAn]
        have H22 := Lib.hid h22
        clear h22 H21
        go_wp2_with fail
        refine (do_g (c := c) (kc := kc) (G := (⟨[⟨[4], [50]⟩, ⟨[3], [51]⟩, ⟨[], [0]⟩, ⟨[], [1]⟩], [1, 2, 4, 0, 0], 3⟩ : Gr.GS)) 2 3 1 0 0 (wf5 (by omega) (by omega) (by omega) (by omega) (by omega)) (by decide) H22.out 0 rfl).mono ?_
        rintro e23 w23 ⟨rfl, h23⟩
        replace h23 : SepO w (fun _ => False) w23 [Hgg hb kc c (⟨[⟨[4], [50]⟩, ⟨[3], [51]⟩, ⟨[], [0]⟩, ⟨[], [1]⟩], [1, 2, 4, 3, 0], 3⟩ : Gr.GS)] := h23
        rw [show (Gr.gdo (⟨[⟨[4], [50]⟩, ⟨[3], [51]⟩, ⟨[], [0]⟩, ⟨[], [1]⟩], [1, 2, 4, 0, 0], 3⟩ : Gr.GS) ⟨2, 3, 1, 0, 0⟩).1 = (⟨0, false, 0, 0⟩ : Gr.GA) from rfl]
        simp only [toAn]
        have H23 := Lib.hid h23
        clear h23 H22
        obtain ⟨cq, cql⟩ := HCC.out _ H23.out.keep0
        clear HCC
        go_wp2_with fail
        refine (do_g (c := c) (kc := kc) (G := (⟨[⟨[4], [50]⟩, ⟨[3], [51]⟩, ⟨[], [0]⟩, ⟨[], [1]⟩], [1, 2, 4, 3, 0], 3⟩ : Gr.GS)) 6 2 0 0 0 (wf5 (by omega) (by omega) (by omega) (by omega) (by omega)) (by decide) H23.out 0 rfl).mono ?_
        rintro e24 w24 ⟨rfl, h24⟩
        replace h24 : SepO w (fun _ => False) w24 [Hgg hb kc c (⟨[⟨[4], [50]⟩, ⟨[3], [51]⟩, ⟨[], [0]⟩, ⟨[], [1]⟩], [1, 2, 0, 3, 0], 3⟩ : Gr.GS)] := h24
        rw [show (Gr.gdo (⟨[⟨[4], [50]⟩, ⟨[3], [51]⟩, ⟨[], [0]⟩, ⟨[], [1]⟩], [1, 2, 4, 3, 0], 3⟩ : Gr.GS) ⟨6, 2, 0, 0, 0⟩).1 = (⟨0, false, 0, 0⟩ : Gr.GA) from rfl]
        simp only [toAn]
        have H24 := Lib.hid h24
        clear h24 H23
        go_wp2_with fail
        refine (do_g (c := c) (kc := kc) (G := (⟨[⟨[4], [50]⟩, ⟨[3], [51]⟩, ⟨[], [0]⟩, ⟨[], [1]⟩], [1, 2, 0, 3, 0], 3⟩ : Gr.GS)) 6 3 0 0 0 (wf5 (by omega) (by omega) (by omega) (by omega) (by omega)) (by decide) H24.out 0 rfl).mono ?_
        rintro e25 w25 ⟨rfl, h25⟩
        replace h25 : SepO w (fun _ => False) w25 [Hgg hb kc c (⟨[⟨[4], [50]⟩, ⟨[3], [51]⟩, ⟨[], [0]⟩, ⟨[], [1]⟩], [1, 2, 0, 0, 0], 3⟩ : Gr.GS)] := h25
        rw [show (Gr.gdo (⟨[⟨[4], [50]⟩, ⟨[3], [51]⟩, ⟨[], [0]⟩, ⟨[], [1]⟩], [1, 2, 0, 3, 0], 3⟩ : Gr.GS) ⟨6, 3, 0, 0, 0⟩).1 = (⟨0, false, 0, 0⟩ : Gr.GA) from rfl]
        simp only [toAn]
        have H25 := Lib.hid h25
        clear h25 H24
        go_wp2_with fail
        refine (stir_g (c := c) (kc := kc) (G := (⟨[⟨[4], [50]⟩, ⟨[3], [51]⟩, ⟨[], [0]⟩, ⟨[], [1]⟩], [1, 2, 0, 0, 0], 3⟩ : Gr.GS)) (j + 1) (by omega) (HV.out.keep H25.out.keep0 (fun _ _ h => h)) HU.out H25.out 0 rfl).mono ?_
        rintro e26 w26 ⟨rfl, h26⟩
        have H26 := Lib.hid h26
        clear h26 H25
        go_wp2_with fail
        refine (do_g (c := c) (kc := kc) (G := (⟨[⟨[4], [50]⟩, ⟨[3], [51]⟩, ⟨[], [0]⟩, ⟨[], [1]⟩], [1, 2, 0, 0, 0], 3⟩ : Gr.GS)) 2 4 0 0 0 (wf5 (by omega) (by omega) (by omega) (by omega) (by omega)) (by decide) H26.out 0 rfl).mono ?_
        rintro e27 w27 ⟨rfl, h27⟩
        replace h27 : SepO w (fun _ => False) w27 [Hgg hb kc c (⟨[⟨[4], [50]⟩, ⟨[3], [51]⟩, ⟨[], [0]⟩, ⟨[], [1]⟩], [1, 2, 0, 0, 4], 3⟩ : Gr.GS)] := h27
        rw [show (Gr.gdo (⟨[⟨[4], [50]⟩, ⟨[3], [51]⟩, ⟨[], [0]⟩, ⟨[], [1]⟩], [1, 2, 0, 0, 0], 3⟩ : Gr.GS) ⟨2, 4, 0, 0, 0⟩).1 = (⟨0, false, 0, 0⟩ : Gr.GA) from rfl]
        simp only [toAn]
        have H27 := Lib.hid h27
        clear h27 H26
        go_wp2_with fail
        refine (do_g (c := c) (kc := kc) (G := (⟨[⟨[4], [50]⟩, ⟨[3], [51]⟩, ⟨[], [0]⟩, ⟨[], [1]⟩], [1, 2, 0, 0, 4], 3⟩ : Gr.GS)) 4 4 0 0 0 (wf5 (by omega) (by omega) (by omega) (by omega) (by omega)) (by decide) H27.out 0 rfl).mono ?_
        rintro e28 w28 ⟨rfl, h28⟩
        replace h28 : SepO w (fun _ => False) w28 [Hgg hb kc c (⟨[⟨[4], [50]⟩, ⟨[3], [51]⟩, ⟨[], [0]⟩, ⟨[], [1]⟩], [1, 2, 0, 0, 4], 3⟩ : Gr.GS)] := h28
        rw [show (Gr.gdo (⟨[⟨[4], [50]⟩, ⟨[3], [51]⟩, ⟨[], [0]⟩, ⟨[], [1]⟩], [1, 2, 0, 0, 4], 3⟩ : Gr.GS) ⟨4, 4, 0, 0, 0⟩).1 = (⟨0, false, 0, 1⟩ : Gr.GA) from rfl]
        simp only [toAn]
        have h28 := h28.new_blk 33 #[i6 0, .bool false, i6 0, .int .u64 1]
        obtain ⟨z28, hz28⟩ : ∃ z, w28.heap.size = z := ⟨_, rfl⟩
        rw [hz28] at h28
        have H28 := Lib.hid h28
        clear h28 H27
        have bb0 := H28.out.blk (g := z28) (t := 33) (cs := #[i6 0, .bool false, i6 0, .int .u64 1]) 1 rfl
        have c0_0 := bb0.cell 0
        have c0_1 := bb0.cell 1
        have c0_2 := bb0.cell 2
        have c0_3 := bb0.cell 3
        have cl0 := bb0.lt
        simp at c0_0 c0_1 c0_2 c0_3
        clear bb0
        go_wp2_with fail
        refine (do_g (c := c) (kc := kc) (G := (⟨[⟨[4], [50]⟩, ⟨[3], [51]⟩, ⟨[], [0]⟩, ⟨[], [1]⟩], [1, 2, 0, 0, 4], 3⟩ : Gr.GS)) 6 4 0 0 0 (wf5 (by omega) (by omega) (by omega) (by omega) (by omega)) (by decide) H28.out 0 rfl).mono ?_
        rintro e29 w29 ⟨rfl, h29⟩
        replace h29 : SepO w (fun _ => False) w29 [Hgg hb kc c (⟨[⟨[4], [50]⟩, ⟨[3], [51]⟩, ⟨[], [0]⟩, ⟨[], [1]⟩], [1, 2, 0, 0, 0], 3⟩ : Gr.GS), blkP z28 33 #[i6 0, .bool false, i6 0, .int .u64 1]] := h29
        rw [show (Gr.gdo (⟨[⟨[4], [50]⟩, ⟨[3], [51]⟩, ⟨[], [0]⟩, ⟨[], [1]⟩], [1, 2, 0, 0, 4], 3⟩ : Gr.GS) ⟨6, 4, 0, 0, 0⟩).1 = (⟨0, false, 0, 0⟩ : Gr.GA) from rfl]
        simp only [toAn]
        have H29 := Lib.hid h29
        clear h29 H28
        go_wp2_with fail
        have H99 := Lib.hid (H29.out.first (l := [_]) (m := [_]))
        go_roundg (gk - 1)
        case measure => have := HJ.out; omega
        case rel => exact ⟨j + 1, true, by have := HJ.out; omega, by go_num, rfl, H99.out⟩
      · as_aux_lemma =>
        go_wp2_with fail
        refine (stir_g (c := c) (kc := kc) (G := (⟨[⟨[4], [50]⟩, ⟨[3], [51]⟩, ⟨[], [0]⟩, ⟨[], [1]⟩], [1, 2, 0, 0, 0], 3⟩ : Gr.GS)) (j) (by omega) (HV.out.keep H20.out.keep0 (fun _ _ h => h)) HU.out H20.out 0 rfl).mono ?_
        rintro e21 w21 ⟨rfl, h21⟩
        have H21 := Lib.hid h21
        clear h21 H20
        go_wp2_with fail
        refine (do_g (c := c) (kc := kc) (G := (⟨[⟨[4], [50]⟩, ⟨[3], [51]⟩, ⟨[], [0]⟩, ⟨[], [1]⟩], [1, 2, 0, 0, 0], 3⟩ : Gr.GS)) 2 2 0 0 0 (wf5 (by omega) (by omega) (by omega) (by omega) (by omega)) (by decide) H21.out 0 rfl).mono ?_
        rintro e22 w22 ⟨rfl, h22⟩
        replace h22 : SepO w (fun _ => False) w22 [Hgg hb kc c (⟨[⟨[4], [50]⟩, ⟨[3], [51]⟩, ⟨[], [0]⟩, ⟨[], [1]⟩], [1, 2, 4, 0, 0], 3⟩ : Gr.GS)] := h22
        rw [show (Gr.gdo (⟨[⟨[4], [50]⟩, ⟨[3], [51]⟩, ⟨[], [0]⟩, ⟨[], [1]⟩], [1, 2, 0, 0, 0], 3⟩ : Gr.GS) ⟨2, 2, 0, 0, 0⟩).1 = (⟨0, false, 0, 0⟩ : Gr.GA) from rfl]
        simp only [toAn]
        have H22 := Lib.hid h22
        clear h22 H21
        go_wp2_with fail
        refine (do_g (c := c) (kc := kc) (G := (⟨[⟨[4], [50]⟩, ⟨[3], [51]⟩, ⟨[], [0]⟩, ⟨[], [1]⟩], [1, 2, 4, 0, 0], 3⟩ : Gr.GS)) 2 3 1 0 0 (wf5 (by omega) (by omega) (by omega) (by omega) (by omega)) (by decide) H22.out 0 rfl).mono ?_
        rintro e23 w23 ⟨rfl, h23⟩
        replace h23 : SepO w (fun _ => False) w23 [Hgg hb kc c (⟨[⟨[4], [50]⟩, ⟨[3], [51]⟩, ⟨[], [0]⟩, ⟨[], [1]⟩], [1, 2, 4, 3, 0], 3⟩ : Gr.GS)] := h23
        rw [show (Gr.gdo (⟨[⟨[4], [50]⟩, ⟨[3], [51]⟩, ⟨[], [0]⟩, ⟨[], [1]⟩], [1, 2, 4, 0, 0], 3⟩ : Gr.GS) ⟨2, 3, 1, 0, 0⟩).1 = (⟨0, false, 0, 0⟩ : Gr.GA) from rfl]
        simp only [toAn]
        have H23 := Lib.hid h23
        clear h23 H22
        obtain ⟨cq, cql⟩ := HCC.out _ H23.out.keep0
        clear HCC
        go_wp2_with fail
        refine (do_g (c := c) (kc := kc) (G := (⟨[⟨[4], [50]⟩, ⟨[3], [51]⟩, ⟨[], [0]⟩, ⟨[], [1]⟩], [1, 2, 4, 3, 0], 3⟩ : Gr.GS)) 3 0 0 3 0 (wf5 (by omega) (by omega) (by omega) (by omega) (by omega)) (by decide) H23.out 0 rfl).mono ?_
        rintro e24 w24 ⟨rfl, h24⟩
        replace h24 : SepO w (fun _ => False) w24 [Hgg hb kc c (⟨[⟨[3], [50]⟩, ⟨[3], [51]⟩, ⟨[], [0]⟩, ⟨[], [1]⟩], [1, 2, 4, 3, 0], 3⟩ : Gr.GS)] := h24
        rw [show (Gr.gdo (⟨[⟨[4], [50]⟩, ⟨[3], [51]⟩, ⟨[], [0]⟩, ⟨[], [1]⟩], [1, 2, 4, 3, 0], 3⟩ : Gr.GS) ⟨3, 0, 0, 3, 0⟩).1 = (⟨0, false, 0, 0⟩ : Gr.GA) from rfl]
        simp only [toAn]
        have H24 := Lib.hid h24
        clear h24 H23
        go_wp2_with fail
        refine (do_g (c := c) (kc := kc) (G := (⟨[⟨[3], [50]⟩, ⟨[3], [51]⟩, ⟨[], [0]⟩, ⟨[], [1]⟩], [1, 2, 4, 3, 0], 3⟩ : Gr.GS)) 3 1 0 2 0 (wf5 (by omega) (by omega) (by omega) (by omega) (by omega)) (by decide) H24.out 0 rfl).mono ?_
        rintro e25 w25 ⟨rfl, h25⟩
        replace h25 : SepO w (fun _ => False) w25 [Hgg hb kc c (⟨[⟨[3], [50]⟩, ⟨[4], [51]⟩, ⟨[], [0]⟩, ⟨[], [1]⟩], [1, 2, 4, 3, 0], 3⟩ : Gr.GS)] := h25
        rw [show (Gr.gdo (⟨[⟨[3], [50]⟩, ⟨[3], [51]⟩, ⟨[], [0]⟩, ⟨[], [1]⟩], [1, 2, 4, 3, 0], 3⟩ : Gr.GS) ⟨3, 1, 0, 2, 0⟩).1 = (⟨0, false, 0, 0⟩ : Gr.GA) from rfl]
        simp only [toAn]
        have H25 := Lib.hid h25
        clear h25 H24
        go_wp2_with fail
        refine (do_g (c := c) (kc := kc) (G := (⟨[⟨[3], [50]⟩, ⟨[4], [51]⟩, ⟨[], [0]⟩, ⟨[], [1]⟩], [1, 2, 4, 3, 0], 3⟩ : Gr.GS)) 6 2 0 0 0 (wf5 (by omega) (by omega) (by omega) (by omega) (by omega)) (by decide) H25.out 0 rfl).mono ?_
        rintro e26 w26 ⟨rfl, h26⟩
        replace h26 : SepO w (fun _ => False) w26 [Hgg hb kc c (⟨[⟨[3], [50]⟩, ⟨[4], [51]⟩, ⟨[], [0]⟩, ⟨[], [1]⟩], [1, 2, 0, 3, 0], 3⟩ : Gr.GS)] := h26
        rw [show (Gr.gdo (⟨[⟨[3], [50]⟩, ⟨[4], [51]⟩, ⟨[], [0]⟩, ⟨[], [1]⟩], [1, 2, 4, 3, 0], 3⟩ : Gr.GS) ⟨6, 2, 0, 0, 0⟩).1 = (⟨0, false, 0, 0⟩ : Gr.GA) from rfl]
        simp only [toAn]
        have H26 := Lib.hid h26
        clear h26 H25
        go_wp2_with fail
        refine (do_g (c := c) (kc := kc) (G := (⟨[⟨[3], [50]⟩, ⟨[4], [51]⟩, ⟨[], [0]⟩, ⟨[], [1]⟩], [1, 2, 0, 3, 0], 3⟩ : Gr.GS)) 6 3 0 0 0 (wf5 (by omega) (by omega) (by omega) (by omega) (by omega)) (by decide) H26.out 0 rfl).mono ?_
        rintro e27 w27 ⟨rfl, h27⟩
        replace h27 : SepO w (fun _ => False) w27 [Hgg hb kc c (⟨[⟨[3], [50]⟩, ⟨[4], [51]⟩, ⟨[], [0]⟩, ⟨[], [1]⟩], [1, 2, 0, 0, 0], 3⟩ : Gr.GS)] := h27
        rw [show (Gr.gdo (⟨[⟨[3], [50]⟩, ⟨[4], [51]⟩, ⟨[], [0]⟩, ⟨[], [1]⟩], [1, 2, 0, 3, 0], 3⟩ : Gr.GS) ⟨6, 3, 0, 0, 0⟩).1 = (⟨0, false, 0, 0⟩ : Gr.GA) from rfl]
        simp only [toAn]
        have H27 := Lib.hid h27
        clear h27 H26
        go_wp2_with fail
        refine (stir_g (c := c) (kc := kc) (G := (⟨[⟨[3], [50]⟩, ⟨[4], [51]⟩, ⟨[], [0]⟩, ⟨[], [1]⟩], [1, 2, 0, 0, 0], 3⟩ : Gr.GS)) (j + 1) (by omega) (HV.out.keep H27.out.keep0 (fun _ _ h => h)) HU.out H27.out 0 rfl).mono ?_
        rintro e28 w28 ⟨rfl, h28⟩
        have H28 := Lib.hid h28
        clear h28 H27
        go_wp2_with fail
        refine (do_g (c := c) (kc := kc) (G := (⟨[⟨[3], [50]⟩, ⟨[4], [51]⟩, ⟨[], [0]⟩, ⟨[], [1]⟩], [1, 2, 0, 0, 0], 3⟩ : Gr.GS)) 2 4 0 0 0 (wf5 (by omega) (by omega) (by omega) (by omega) (by omega)) (by decide) H28.out 0 rfl).mono ?_
        rintro e29 w29 ⟨rfl, h29⟩
        replace h29 : SepO w (fun _ => False) w29 [Hgg hb kc c (⟨[⟨[3], [50]⟩, ⟨[4], [51]⟩, ⟨[], [0]⟩, ⟨[], [1]⟩], [1, 2, 0, 0, 3], 3⟩ : Gr.GS)] := h29
        rw [show (Gr.gdo (⟨[⟨[3], [50]⟩, ⟨[4], [51]⟩, ⟨[], [0]⟩, ⟨[], [1]⟩], [1, 2, 0, 0, 0], 3⟩ : Gr.GS) ⟨2, 4, 0, 0, 0⟩).1 = (⟨0, false, 0, 0⟩ : Gr.GA) from rfl]
        simp only [toAn]
        have H29 := Lib.hid h29
        clear h29 H28
        go_wp2_with fail
        refine (do_g (c := c) (kc := kc) (G := (⟨[⟨[3], [50]⟩, ⟨[4], [51]⟩, ⟨[], [0]⟩, ⟨[], [1]⟩], [1, 2, 0, 0, 3], 3⟩ : Gr.GS)) 4 4 0 0 0 (wf5 (by omega) (by omega) (by omega) (by omega) (by omega)) (by decide) H29.out 0 rfl).mono ?_
        rintro e30 w30 ⟨rfl, h30⟩
        replace h30 : SepO w (fun _ => False) w30 [Hgg hb kc c (⟨[⟨[3], [50]⟩, ⟨[4], [51]⟩, ⟨[], [0]⟩, ⟨[], [1]⟩], [1, 2, 0, 0, 3], 3⟩ : Gr.GS)] := h30
        rw [show (Gr.gdo (⟨[⟨[3], [50]⟩, ⟨[4], [51]⟩, ⟨[], [0]⟩, ⟨[], [1]⟩], [1, 2, 0, 0, 3], 3⟩ : Gr.GS) ⟨4, 4, 0, 0, 0⟩).1 = (⟨0, false, 0, 0⟩ : Gr.GA) from rfl]
        simp only [toAn]
        have h30 := h30.new_blk 33 #[i6 0, .bool false, i6 0, .int .u64 0]
        obtain ⟨z30, hz30⟩ : ∃ z, w30.heap.size = z := ⟨_, rfl⟩
        rw [hz30] at h30
        have H30 := Lib.hid h30
        clear h30 H29
        have bb0 := H30.out.blk (g := z30) (t := 33) (cs := #[i6 0, .bool false, i6 0, .int .u64 0]) 1 rfl
        have c0_0 := bb0.cell 0
        have c0_1 := bb0.cell 1
        have c0_2 := bb0.cell 2
        have c0_3 := bb0.cell 3
        have cl0 := bb0.lt
        simp at c0_0 c0_1 c0_2 c0_3
        clear bb0
        go_wp2_with fail
        refine (do_g (c := c) (kc := kc) (G := (⟨[⟨[3], [50]⟩, ⟨[4], [51]⟩, ⟨[], [0]⟩, ⟨[], [1]⟩], [1, 2, 0, 0, 3], 3⟩ : Gr.GS)) 6 4 0 0 0 (wf5 (by omega) (by omega) (by omega) (by omega) (by omega)) (by decide) H30.out 0 rfl).mono ?_
        rintro e31 w31 ⟨rfl, h31⟩
        replace h31 : SepO w (fun _ => False) w31 [Hgg hb kc c (⟨[⟨[3], [50]⟩, ⟨[4], [51]⟩, ⟨[], [0]⟩, ⟨[], [1]⟩], [1, 2, 0, 0, 0], 3⟩ : Gr.GS), blkP z30 33 #[i6 0, .bool false, i6 0, .int .u64 0]] := h31
        rw [show (Gr.gdo (⟨[⟨[3], [50]⟩, ⟨[4], [51]⟩, ⟨[], [0]⟩, ⟨[], [1]⟩], [1, 2, 0, 0, 3], 3⟩ : Gr.GS) ⟨6, 4, 0, 0, 0⟩).1 = (⟨0, false, 0, 0⟩ : Gr.GA) from rfl]
        simp only [toAn]
        have H31 := Lib.hid h31
        clear h31 H30
        go_wp2_with fail
        have H99 := Lib.hid (H31.out.first (l := [_]) (m := [_]))
        go_roundg (gk - 1)
        case measure => have := HJ.out; omega
        case rel => exact ⟨j + 1, false, by have := HJ.out; omega, by go_num, rfl, H99.out⟩
    · have H0 := Lib.hid h
      clear h
      rcases (by omega : ¬ j < swaps.length ∨ (j < swaps.length ∧ ¬ j < 60)) with hx | ⟨hx, hx'⟩
      all_goals
        clear hlt
        go_wp2_with fail
        go_ret
        exact ⟨rfl, H0.out.below⟩
end Go.Proofs.YtihmkkjmnbehbaaGreat.Wh
/- Slices of bools that come in, as lists. No condition. -/
set_option linter.unusedVariables false
namespace Go.Proofs.YtihmkkjmnbehbaaGreat.RL
open Go.ChangeShapes Go.WideShapes Go.ChangeAt Go.RowKit Go.Deep Go.Proofs.YtihmkkjmnbehbaaGreat.W

section
variable {H : Type} {enc : TypeId × Value → H} {P : Program} {w : World}
theorem spot_none {a : Addr} {v : Value} (h : w.cell? (a.add 0) = some v) : ∃ b o, a = ⟨b, o, none⟩ ∧ b < w.heap.size := by
  obtain ⟨b, o, s⟩ := a
  have e0 : (Addr.mk b o s).add 0 = ⟨b, o, s⟩ := by simp [Addr.add]
  rw [e0] at h
  have hl := World.block_lt_of_cell? w _ h
  cases s with
  | none => exact ⟨b, o, rfl, hl⟩
  | some x =>
    unfold World.cell? at h
    split at h
    · simp at h
    · cases h

theorem open_SB {r : Reach} {b0 : Nat} {t e : TypeId} {v : Value} {d : DataW H} {p : List MemPlace} (ht : P.underlying t = some (.slice e)) (he : P.underlying e = some .bool) (hc : P.cellsOf e = 1)
    (hv : Value.okWide P w r b0 t v) (h : DataW.Trod enc P w 0 (fun _ => true) true t v d p) : ∃ l : List Bool, SB w (fun i => i < w.heap.size) v l := by
  obtain ⟨a0, len, cap, rfl⟩ := okWide_slice ht hv
  obtain ⟨fuel, hf⟩ := h
  rcases open_slice1 ht hc (by simpa [Value.cells] using hf) with ⟨hcs, _⟩ | ⟨a, len', cap', m, n, V, D, Pl, hcs, _, hl, hm, hmm, _, hx⟩
  · simp at hcs
    obtain ⟨rfl, rfl, rfl⟩ := hcs
    exact ⟨[], none, 0, rfl, by simp, fun h => by simp at h⟩
  · simp at hcs
    obtain ⟨rfl, rfl, rfl⟩ := hcs
    simp only [if_true] at hmm
    subst hmm
    have hb : ∀ i, i < len → ∃ b : Bool, V i = .bool b := by
      intro i hi
      obtain ⟨_, h2⟩ := hx i (by omega)
      obtain ⟨b, hb, _⟩ := DataW.trod_bool he h2
      exact ⟨b, by simpa using hb⟩
    have hlen : ((List.range len).map fun i => (match V i with | .bool b => b | _ => false)).length = len := by simp
    unfold maxLen at hm
    refine ⟨(List.range len).map fun i => (match V i with | .bool b => b | _ => false), some a, m, by rw [hlen], by rw [hlen]; omega, fun h0 => ?_⟩
    rw [hlen] at h0 ⊢
    obtain ⟨b, o, rfl, hbl⟩ := spot_none (hx 0 (by omega)).1
    refine ⟨b, o, rfl, hbl, hbl, fun j hj => ?_⟩
    have h1 := (hx j (by omega)).1
    rw [Addr.add_lit] at h1
    rw [h1]
    obtain ⟨y, hy⟩ := hb j hj
    simp [hj, hy]
end
end Go.Proofs.YtihmkkjmnbehbaaGreat.RL
