/- GraphPlays as a contract. Condition: the list reads as a list. -/
import Derived.Test.YtoldhaomacnigaaRgJ
import Derived.Test.YtoldhaomacnigaaGrM
set_option linter.unusedVariables false
set_option linter.unusedSimpArgs false
namespace Go.Proofs.Ytoldhaomacnigaa.Gp
open Go.RowKit Go.Proofs.Ytoldhaomacnigaa.W Go.Proofs.Ytoldhaomacnigaa Go.Proofs.Ytoldhaomacnigaa.Gr Go.Proofs.Ytoldhaomacnigaa.Sm
/-- A step of a list, where the list lies in old memory, in every later world. -/
theorem step_all {w : World} {A : Option Addr} {l1 : List A5} (hc : 0 < l1.length → ∃ b o, A = some ⟨b, o, none⟩ ∧ (fun i => i < w.heap.size) b ∧ b < w.heap.size ∧ ∀ j x, l1[j]? = some x → ∀ i u, (A5.cells x)[i]? = some u → w.cell? ⟨b, o + (j * 5 + i), none⟩ = some u)
    {k : Nat} (hlt : k < l1.length) : ∃ b o x, l1[k]? = some x ∧ A = some ⟨b, o, none⟩ ∧ ∀ wr, Keep (fun _ => False) w wr → wr.cell? ⟨b, o + k * 5, none⟩ = some (.int .i64 x.kind) ∧ wr.cell? ⟨b, o + k * 5 + 1, none⟩ = some (.int .i64 x.a) ∧ wr.cell? ⟨b, o + k * 5 + 2, none⟩ = some (.int .i64 x.b) ∧ wr.cell? ⟨b, o + k * 5 + 3, none⟩ = some (.int .i64 x.c) ∧ wr.cell? ⟨b, o + k * 5 + 4, none⟩ = some (.int .u64 x.v) := by
  obtain ⟨b, o, hA, _, hlt2, hcell⟩ := hc (by omega)
  have hx : l1[k]? = some (l1[k]'hlt) := List.getElem?_eq_getElem hlt
  refine ⟨b, o, _, hx, hA, fun wr hk => ?_⟩
  have e : ∀ i u, (A5.cells l1[k])[i]? = some u → wr.cell? ⟨b, o + k * 5 + i, none⟩ = some u := fun i u hu => by
    rw [Nat.add_assoc]
    exact (World.cell?_of_block (hk.block b hlt2 (fun h => h))).trans (hcell k _ hx i u hu)
  exact ⟨e 0 _ rfl, e 1 _ rfl, e 2 _ rfl, e 3 _ rfl, e 4 _ rfl⟩
set_option maxRecDepth 20000 in
set_option maxHeartbeats 4000000 in
theorem Plays_calls {v2 : Value} {l2 : List A5} (a0 a1 : Int) (w : World) (g2 : SS w (fun i => i < w.heap.size) A5.cells 5 v2 l2) (q2 : ∀ x ∈ l2, A5.wf x) :
    Calls Try.prog 3 #[.int .i64 a0, .int .i64 a1, v2] w fun e w' => e = .returned (.bool true) ∧ Below w.heap.size w w' := by
  obtain ⟨A1, c1, rfl, hm1, hc1⟩ := g2
  have HC1 := Lib.hid hc1
  have Q1 := Lib.hid q2
  clear hc1 q2
  go_enter Try.func3, Try.ntmps3
  go_wp2_with fail
  refine (Gr.New_sep a0 a1 (Sep.nil w)).mono ?_
  rintro e w1 ⟨g, rfl, h1⟩
  have H1 := Lib.hid h1
  clear h1
  go_wp2_with fail
  refine (Rg.New_sep a0 a1 H1.out).mono ?_
  rintro e w2 ⟨g2, rfl, h2⟩
  have H2 := Lib.hid h2
  clear h2 H1
  go_wp2_with fail
  go_loopg [9] 100 (fun gk z wr => ∃ (j : Nat) (t : GS), j + gk = 100 ∧ z = .int .i64 j ∧ Sep w wr [Gph g t, Rg.Rph g2 t] ∧ t.nodes.length ≤ j)
  case atStart => exact ⟨0, gnew a0 a1, by omega, rfl, H2.out, by simp [gnew]⟩
  case round =>
    clear H2
    obtain ⟨j, t, hj, rfl, h, hno⟩ := hrel
    have HJ := Lib.hid hj
    have hj80 : j ≤ 100 := by omega
    clear hj
    by_cases hc : j < l2.length ∧ j < 100
    · obtain ⟨hlt, hlt2⟩ := hc
      obtain ⟨b, o, x, hx, rfl, hce⟩ := step_all HC1.out hlt
      have hwf := Q1.out x (List.mem_of_getElem? hx)
      have hgl := gdo_len t x
      obtain ⟨x0, x1, x2, x3, x4⟩ := hce _ h.keep0
      obtain ⟨d0, d1, d2, d3, d4⟩ := hce _ h.drew.keep0
      have hdo : ∀ Y, Sep w Y [Gph g t, Rg.Rph g2 t] → _ := fun Y hY => Gr.Do_sep x hwf hY 0 rfl
      have hdo2 : ∀ Y, Sep w Y [Gph g (gdo t x).2, Rg.Rph g2 t] → _ := fun Y hY => Rg.Do_sep x hwf (by omega) hY 1 rfl
      have HD := Lib.hid hdo
      have HD2 := Lib.hid hdo2
      have HGL := Lib.hid hgl
      have HCE := Lib.hid hce
      have H := Lib.hid h
      clear h hdo hdo2 hx hgl hwf hce
      have e100 : decide ((j : Int) < 100) = true := by simp; omega
      go_wp2_with fail
      go_region_held3 (fun w' => w'.cell? ⟨b, o + j * 5, none⟩ = some (.int .i64 x.kind) ∧ w'.cell? ⟨b, o + j * 5 + 1, none⟩ = some (.int .i64 x.a) ∧ w'.cell? ⟨b, o + j * 5 + 2, none⟩ = some (.int .i64 x.b) ∧ w'.cell? ⟨b, o + j * 5 + 3, none⟩ = some (.int .i64 x.c) ∧ w'.cell? ⟨b, o + j * 5 + 4, none⟩ = some (.int .u64 x.v)) (first | exact ⟨x0, x1, x2, x3, x4⟩ | exact ⟨d0, d1, d2, d3, d4⟩ | exact ⟨y0, y1, y2, y3, y4⟩ | exact ⟨z0, z1, z2, z3, z4⟩ | go_keep) ((first | (go_at_call 11; (with_reducible refine (HD.out _ (by first | exact H.out | exact H.out.drew)).mono ?_); rintro e w5 ⟨rfl, h5⟩; obtain ⟨y0, y1, y2, y3, y4⟩ := HCE.out _ h5.keep0; simp only [GA.cells]) | (go_at_call 12; (with_reducible refine (HD2.out _ h5).mono ?_); rintro e w6 ⟨rfl, h6⟩; obtain ⟨z0, z1, z2, z3, z4⟩ := HCE.out _ h6.keep0; simp only [GA.cells])))
      have h6' : Sep w w6 [Gph g (gdo t x).2, Rg.Rph g2 (gdo t x).2] := h6
      have hno2 : (gdo t x).2.nodes.length ≤ j + 1 := by have := HGL.out.2.1; omega
      obtain ⟨t2, ht2⟩ : ∃ t2, (gdo t x).2 = t2 := ⟨_, rfl⟩
      rw [ht2] at h6' hno2
      have H6 := Lib.hid h6'
      clear h5 h6 h6' HD HD2 HCE H x0 x1 x2 x3 x4 d0 d1 d2 d3 d4 y0 y1 y2 y3 y4 z0 z1 z2 z3 z4 ht2 hno HGL
      by_cases hm : (j : Int) % 10 = 0
      · go_wp2_with fail
        refine (Gr.Words_sep H6.out 0 rfl (by omega)).mono ?_
        rintro e w7 ⟨rfl, h7⟩
        have H7 := Lib.hid h7
        clear h7
        go_wp2_with fail
        refine (Rg.Words_sep H7.out 1 rfl (by omega)).mono ?_
        rintro e w8 ⟨rfl, h8⟩
        have H8 := Lib.hid h8
        clear h8
        go_wp2_with fail
        go_roundg (gk - 1)
        case measure => have := HJ.out; omega
        case rel => exact ⟨j + 1, t2, by have := HJ.out; omega, by go_num, H8.out, hno2⟩
      · go_wp2_with fail
        go_roundg (gk - 1)
        case measure => have := HJ.out; omega
        case rel => exact ⟨j + 1, t2, by have := HJ.out; omega, by go_num, H6.out, hno2⟩
    · have H0 := Lib.hid h
      clear h
      rcases (by omega : ¬ j < l2.length ∨ (j < l2.length ∧ ¬ j < 100)) with hx | ⟨hx, hx'⟩
      all_goals
        clear hc
        go_wp2_with fail
        refine (Gr.Nodes_sep H0.out 0 rfl (by omega)).mono ?_
        rintro e w3 ⟨v, hv, rfl, h3⟩
        have H3 := Lib.hid h3
        clear h3 H0
        go_wp2_with fail
        refine (Rg.Shown_sep H3.out 1 rfl (by omega)).mono ?_
        rintro e w4 ⟨u, hu, rfl, ns, is, h4⟩
        have H4 := Lib.hid h4
        have NS4 := Lib.hid ns
        have IS4 := Lib.hid is
        clear h4 H3 ns is
        go_wp2_with fail
        refine (Gr.awake_calls _).mono ?_
        rintro e w5 ⟨rfl, k5⟩
        have H5 := Lib.hid (H4.out.stay k5)
        have K5 := Lib.hid k5
        clear k5
        go_wp2_with fail
        refine (Sm.Same_calls _ (nodes_of_part H5.out 2 rfl) (ints_of_part H5.out 3 rfl) (NS.keep NS4.out K5.out (fun _ _ h => h)) (SL.keep IS4.out K5.out (fun _ _ h => h))).mono ?_
        rintro e w6 ⟨rfl, n6, rfl⟩
        have H6 := Lib.hid (H5.out.drewN n6)
        clear H4 NS4 IS4 K5
        go_wp2_with fail
        refine (Gr.Words_sep H6.out 0 rfl (by omega)).mono ?_
        rintro e w7 ⟨rfl, h7⟩
        have H7 := Lib.hid h7
        clear h7
        go_wp2_with fail
        refine (Rg.Words_sep H7.out 1 rfl (by omega)).mono ?_
        rintro e w8 ⟨rfl, h8⟩
        have H8 := Lib.hid h8
        clear h8
        go_wp2_with fail
        go_ret
        exact ⟨rfl, H8.out.below⟩
end Go.Proofs.Ytoldhaomacnigaa.Gp
