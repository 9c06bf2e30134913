-- PRINTED BY print.sh 35421559b90ae4d0a3588c463048766b98c2df88dd9212a6774a882060cdf62d: not written by this session
import Derived.Test.YthkajdbegdclmaaPClassPagesx0
import Derived.Test.YthkajdbegdclmaaPClassPagesx1
namespace Go.Proofs.Ythkajdbegdclmaa.PClassPages
open Go.RowKit Go.Proofs.YthkajdbegdclmaaW.PrintWords Go.Proofs.YthkajdbegdclmaaW.PrintLast Go.Proofs.YthkajdbegdclmaaW.PrintMore
attribute [local go_sem] max2_int min2_int max_two min_two max_three min_three max_four min_four   -- for this text's walks alone
set_option linter.unusedVariables false
set_option linter.unusedSimpArgs false

/-! ### tilthlaw04_ClassPages: function 4 -/
mutual
def tilthlaw04_ClassPages.j0 : Nat → Int → Int → Int → Bool → Option (Bool)
  | 0, _, _, _, _ => none
  | k + 1, x0, x1, x5, x11 => if x11 = true then (if x1 = 0 then (none) else (tilthlaw04_ClassPages.j1 k x0 x1 (wrap64 (Int.tdiv x0 x1)))) else (tilthlaw04_ClassPages.j1 k x0 x1 x5)
def tilthlaw04_ClassPages.j1 : Nat → Int → Int → Int → Option (Bool)
  | 0, _, _, _ => none
  | k + 1, x0, x1, x5 => (tilthlaw04_awake.f k).bind fun t113 => (if t113 = true then ((class_Cells.f x0 x1).bind fun t114 => (if t114 = x5 then ((class_Pages.f x0 x1).bind fun t115 => ((tilthref01_Pages.f k x0 x1).bind fun t116 => (if t115 = t116 then ((class_Large.f k x0 x1).bind fun t117 => ((tilthref01_Round.f k x1).bind fun t118 => (some (t117 == (decide (t118 > (wrap64 (Int.tdiv x0 2)))))))) else (some false)))) else (some false))) else (some false))
end
def tilthlaw04_ClassPages.f (k : Nat) (a0 : Int) (a1 : Int) : Option (Bool) := if a0 > 0 then (tilthlaw04_ClassPages.j0 k a0 a1 0 (decide (a1 > 0))) else (tilthlaw04_ClassPages.j0 k a0 a1 0 false)
theorem tilthlaw04_ClassPages.mono_l : ∀ k, (∀ y0 y1 y2 y3, LeO (tilthlaw04_ClassPages.j0 k y0 y1 y2 y3) (tilthlaw04_ClassPages.j0 (k + 1) y0 y1 y2 y3)) ∧ (∀ y0 y1 y2, LeO (tilthlaw04_ClassPages.j1 k y0 y1 y2) (tilthlaw04_ClassPages.j1 (k + 1) y0 y1 y2))
  | 0 => ⟨fun _ _ _ _ r h => by simp [tilthlaw04_ClassPages.j0] at h, fun _ _ _ r h => by simp [tilthlaw04_ClassPages.j1] at h⟩
  | k + 1 => by
    obtain ⟨ih0, ih1⟩ := tilthlaw04_ClassPages.mono_l k
    refine ⟨?_, ?_⟩
    · intro y0 y1 y2 y3
      unfold tilthlaw04_ClassPages.j0
      repeat' first
      | (with_reducible exact ih0 _ _ _ _)
      | (with_reducible exact ih1 _ _ _)
      | (with_reducible exact class_Large.mono _ _ _)
      | (with_reducible exact tilthlaw04_awake.mono _)
      | (with_reducible exact tilthref01_Pages.mono _ _ _)
      | (with_reducible exact tilthref01_Round.mono _ _)
      | (with_reducible exact LeO.refl _)
      | (with_reducible exact LeO.none _)
      | (with_reducible refine LeO.ite ?_ ?_)
      | (with_reducible refine LeO.bind ?_ (fun _ => ?_))
      | exact ih0 _ _ _ _
      | exact ih1 _ _ _
      | exact class_Large.mono _ _ _
      | exact tilthlaw04_awake.mono _
      | exact tilthref01_Pages.mono _ _ _
      | exact tilthref01_Round.mono _ _
      | exact LeO.none _
      | refine LeO.ite ?_ ?_
      | refine LeO.bind ?_ (fun _ => ?_)
    · intro y0 y1 y2
      unfold tilthlaw04_ClassPages.j1
      repeat' first
      | (with_reducible exact ih0 _ _ _ _)
      | (with_reducible exact ih1 _ _ _)
      | (with_reducible exact class_Large.mono _ _ _)
      | (with_reducible exact tilthlaw04_awake.mono _)
      | (with_reducible exact tilthref01_Pages.mono _ _ _)
      | (with_reducible exact tilthref01_Round.mono _ _)
      | (with_reducible exact LeO.refl _)
      | (with_reducible exact LeO.none _)
      | (with_reducible refine LeO.ite ?_ ?_)
      | (with_reducible refine LeO.bind ?_ (fun _ => ?_))
      | exact ih0 _ _ _ _
      | exact ih1 _ _ _
      | exact class_Large.mono _ _ _
      | exact tilthlaw04_awake.mono _
      | exact tilthref01_Pages.mono _ _ _
      | exact tilthref01_Round.mono _ _
      | exact LeO.none _
      | refine LeO.ite ?_ ?_
      | refine LeO.bind ?_ (fun _ => ?_)
theorem tilthlaw04_ClassPages.mono : ∀ a0 a1 k, LeO (tilthlaw04_ClassPages.f k a0 a1) (tilthlaw04_ClassPages.f (k + 1) a0 a1) := by
  intro a0 a1 k
  obtain ⟨ih0, ih1⟩ := tilthlaw04_ClassPages.mono_l k
  unfold tilthlaw04_ClassPages.f
  repeat' first
      | (with_reducible exact ih0 _ _ _ _)
      | (with_reducible exact ih1 _ _ _)
      | (with_reducible exact class_Large.mono _ _ _)
      | (with_reducible exact tilthlaw04_awake.mono _)
      | (with_reducible exact tilthref01_Pages.mono _ _ _)
      | (with_reducible exact tilthref01_Round.mono _ _)
      | (with_reducible exact LeO.refl _)
      | (with_reducible exact LeO.none _)
      | (with_reducible refine LeO.ite ?_ ?_)
      | (with_reducible refine LeO.bind ?_ (fun _ => ?_))
      | exact ih0 _ _ _ _
      | exact ih1 _ _ _
      | exact class_Large.mono _ _ _
      | exact tilthlaw04_awake.mono _
      | exact tilthref01_Pages.mono _ _ _
      | exact tilthref01_Round.mono _ _
      | exact LeO.none _
      | refine LeO.ite ?_ ?_
      | refine LeO.bind ?_ (fun _ => ?_)
set_option maxHeartbeats 8000000 in
set_option maxRecDepth 100000 in
theorem tilthlaw04_ClassPages.calls (k : Nat) (a0 : Int) (a1 : Int) (r : Bool) (w : World) (h : tilthlaw04_ClassPages.f k a0 a1 = some r) :
    Calls Try.prog 4 #[.int .i64 a0, .int .i64 a1] w fun e w' => e = .returned (.bool r) ∧ Below w.heap.size w w' := by
  have HB := Aside0.mk (Below.refl w.heap.size w)
  have H : (if a0 > 0 then (tilthlaw04_ClassPages.j0 k a0 a1 0 (decide (a1 > 0))) else (tilthlaw04_ClassPages.j0 k a0 a1 0 false)) = some r := h
  clear h
  have HC3 := Aside0.mk H
  clear H
  go_enter Try.func4, Try.ntmps4
  go_upto_region 2 with (fail)
  go_cut [11] (fun v11 wc => ∃ (kq : Nat) (x11_2 : Bool), v11 = .bool x11_2 ∧ Aside0 (tilthlaw04_ClassPages.j0 kq a0 a1 0 x11_2 = some r) ∧ Aside0 (kq ≤ k) ∧ Aside0 (Below w.heap.size w wc))
  case first =>
    have H := HC3.out
    clear HC3
    by_cases c4 : a0 > 0
    · rw [if_pos c4] at H
      have c4b0 : decide (0 < a0) = true := decide_eq_true c4
      clear c4
      (first | rw [c4b0] | (simp only [i64_w, i32_w]; rw [c4b0]) | skip)
      have H' := Aside0.mk H
      clear H
      go_wp2
      go_meet
      case rel => exact ⟨_, (decide (a1 > 0)), (by first | rfl | (simp; done) | (simp [*]; done)), H', ⟨by first | omega | exact Nat.le_refl _⟩, ⟨by repeat (first | (with_reducible first | exact HB.out | apply below_alloc | apply pw_below_drewN | apply below_drew1) | exact HB.out)⟩⟩
    · rw [if_neg c4] at H
      have c4b0 : decide (0 < a0) = false := decide_eq_false c4
      clear c4
      (first | rw [c4b0] | (simp only [i64_w, i32_w]; rw [c4b0]) | skip)
      have H' := Aside0.mk H
      clear H
      go_wp2
      go_meet
      case rel => exact ⟨_, (false), (by first | rfl | (simp; done) | (simp [*]; done)), H', ⟨by first | omega | exact Nat.le_refl _⟩, ⟨by repeat (first | (with_reducible first | exact HB.out | apply below_alloc | apply pw_below_drewN | apply below_drew1) | exact HB.out)⟩⟩
  case rest =>
    clear HC3
    try clear p2
    try clear c4
    try clear c4b0
    obtain ⟨kq, x11_2, rfl, HA, HJ2, HB⟩ := hcut
    cases kq with
    | zero => exact absurd HA.out (by simp [tilthlaw04_ClassPages.j0])
    | succ kj2 =>
      have H := HA.out
      clear HA
      simp only [tilthlaw04_ClassPages.j0] at H
      have HC5 := Aside0.mk H
      clear H
      go_upto_if 11 with (fail)
      go_cut [5] (fun v5 wc => ∃ (kq : Nat) (x5_4 : Int), v5 = .int .i64 x5_4 ∧ Aside0 (tilthlaw04_ClassPages.j1 kq a0 a1 x5_4 = some r) ∧ Aside0 (kq ≤ kj2) ∧ Aside0 (Below w.heap.size w wc))
      case first =>
        have H := HC5.out
        clear HC5
        by_cases c6 : x11_2 = true
        · subst c6
          have H1 : (if a1 = 0 then (none) else (tilthlaw04_ClassPages.j1 kj2 a0 a1 (wrap64 (Int.tdiv a0 a1)))) = some r := by rw [if_pos rfl] at H; exact H
          clear H
          have H := H1
          clear H1
          by_cases c7 : a1 = 0
          · rw [if_pos c7] at H
            exact absurd H (by simp)
          · rw [if_neg c7] at H
            have c7b0 : (a1 == 0) = false := beq_eq_false_iff_ne.mpr c7
            have c7b1 : (a1 != 0) = true := bne_iff_ne.mpr c7
            (first | rw [c7b0] | (simp only [i64_w, i32_w]; rw [c7b0]) | skip)
            have H' := Aside0.mk H
            clear H
            go_wp2
            go_meet
            case rel => exact ⟨_, (wrap64 (Int.tdiv a0 a1)), (by first | rfl | (simp; done) | (simp [*]; done)), H', ⟨by have := HJ2.out; first | omega | exact Nat.le_refl _⟩, ⟨by repeat (first | (with_reducible first | exact HB.out | apply below_alloc | apply pw_below_drewN | apply below_drew1) | exact HB.out)⟩⟩
        · replace c6 := Bool.eq_false_iff.mpr c6
          subst c6
          have H1 : (tilthlaw04_ClassPages.j1 kj2 a0 a1 0) = some r := by rw [if_neg (show ¬ (false = true) by decide)] at H; exact H
          clear H
          have H := H1
          clear H1
          have H' := Aside0.mk H
          clear H
          go_wp2
          go_meet
          case rel => exact ⟨_, (0), (by first | rfl | (simp; done) | (simp [*]; done)), H', ⟨by have := HJ2.out; first | omega | exact Nat.le_refl _⟩, ⟨by repeat (first | (with_reducible first | exact HB.out | apply below_alloc | apply pw_below_drewN | apply below_drew1) | exact HB.out)⟩⟩
      case rest =>
        clear HC5
        try clear p2
        try clear c4
        try clear c4b0
        try clear c6
        try clear p6
        try clear c7
        try clear c7b0
        try clear c7b1
        try clear p2
        obtain ⟨kq, x5_4, rfl, HA, HJ4, HB⟩ := hcut
        cases kq with
        | zero => exact absurd HA.out (by simp [tilthlaw04_ClassPages.j1])
        | succ kj4 =>
          have H := HA.out
          clear HA
          simp only [tilthlaw04_ClassPages.j1] at H
          replace H := Option.bind_eq_some_iff.mp H
          obtain ⟨t113, A80, H⟩ := H
          replace H : (if t113 = true then ((class_Cells.f a0 a1).bind fun t114 => (if t114 = x5_4 then ((class_Pages.f a0 a1).bind fun t115 => ((tilthref01_Pages.f kj4 a0 a1).bind fun t116 => (if t115 = t116 then ((class_Large.f kj4 a0 a1).bind fun t117 => ((tilthref01_Round.f kj4 a1).bind fun t118 => (some (t117 == (decide (t118 > (wrap64 (Int.tdiv a0 2)))))))) else (some false)))) else (some false))) else (some false)) = some r := H
          have A8 := Aside0.mk A80
          clear A80
          by_cases c9 : t113 = true
          · subst c9
            have H1 : ((class_Cells.f a0 a1).bind fun t114 => (if t114 = x5_4 then ((class_Pages.f a0 a1).bind fun t115 => ((tilthref01_Pages.f kj4 a0 a1).bind fun t116 => (if t115 = t116 then ((class_Large.f kj4 a0 a1).bind fun t117 => ((tilthref01_Round.f kj4 a1).bind fun t118 => (some (t117 == (decide (t118 > (wrap64 (Int.tdiv a0 2)))))))) else (some false)))) else (some false))) = some r := by rw [if_pos rfl] at H; exact H
            clear H
            have H := H1
            clear H1
            replace H := Option.bind_eq_some_iff.mp H
            obtain ⟨t114, A100, H⟩ := H
            replace H : (if t114 = x5_4 then ((class_Pages.f a0 a1).bind fun t115 => ((tilthref01_Pages.f kj4 a0 a1).bind fun t116 => (if t115 = t116 then ((class_Large.f kj4 a0 a1).bind fun t117 => ((tilthref01_Round.f kj4 a1).bind fun t118 => (some (t117 == (decide (t118 > (wrap64 (Int.tdiv a0 2)))))))) else (some false)))) else (some false)) = some r := H
            have A10 := Aside0.mk A100
            clear A100
            by_cases c11 : t114 = x5_4
            · rw [if_pos c11] at H
              have c11b0 : (t114 == x5_4) = true := beq_iff_eq.mpr c11
              have c11b1 : (t114 != x5_4) = false := bne_eq_false_iff_eq.mpr c11
              clear c11
              replace H := Option.bind_eq_some_iff.mp H
              obtain ⟨t115, A120, H⟩ := H
              replace H : ((tilthref01_Pages.f kj4 a0 a1).bind fun t116 => (if t115 = t116 then ((class_Large.f kj4 a0 a1).bind fun t117 => ((tilthref01_Round.f kj4 a1).bind fun t118 => (some (t117 == (decide (t118 > (wrap64 (Int.tdiv a0 2)))))))) else (some false))) = some r := H
              have A12 := Aside0.mk A120
              clear A120
              replace H := Option.bind_eq_some_iff.mp H
              obtain ⟨t116, A130, H⟩ := H
              replace H : (if t115 = t116 then ((class_Large.f kj4 a0 a1).bind fun t117 => ((tilthref01_Round.f kj4 a1).bind fun t118 => (some (t117 == (decide (t118 > (wrap64 (Int.tdiv a0 2)))))))) else (some false)) = some r := H
              have A13 := Aside0.mk A130
              clear A130
              by_cases c14 : t115 = t116
              · rw [if_pos c14] at H
                have c14b0 : (t115 == t116) = true := beq_iff_eq.mpr c14
                have c14b1 : (t115 != t116) = false := bne_eq_false_iff_eq.mpr c14
                clear c14
                replace H := Option.bind_eq_some_iff.mp H
                obtain ⟨t117, A150, H⟩ := H
                replace H : ((tilthref01_Round.f kj4 a1).bind fun t118 => (some (t117 == (decide (t118 > (wrap64 (Int.tdiv a0 2))))))) = some r := H
                have A15 := Aside0.mk A150
                clear A150
                replace H := Option.bind_eq_some_iff.mp H
                obtain ⟨t118, A160, H⟩ := H
                replace H : (some (t117 == (decide (t118 > (wrap64 (Int.tdiv a0 2)))))) = some r := H
                have A16 := Aside0.mk A160
                clear A160
                obtain rfl := Option.some.inj H
                go_wp2_with (first | ((with_reducible refine gate_callee (f := 12) rfl ?_); refine goesL_ (some 15) rfl rfl Try.func12 (by kernel_rfl) rfl #[] rfl (by (try simp only [List.map_toArray, List.map_cons, List.map_nil]); first | done | rfl | (simp only [List.length_drop, List.length_take]; rfl)) ?_; (with_reducible refine (tilthlaw04_awake.calls kj4  true _ A8.out).mono ?_); rintro e w17 ⟨rfl, hb⟩; refine ⟨_, rfl, ?_⟩; have n0_ := Aside0.mk (below_step (by repeat (first | (with_reducible first | exact HB.out | apply below_alloc | apply pw_below_drewN | apply below_drew1) | exact HB.out)) hb); clear HB; have HB := n0_; clear n0_; (try clear hb); (try clear hb2); (try clear hk); (try clear hi)) | (go_at_call 15; (with_reducible refine (class_Cells.calls a0 a1 t114 _ A10.out).mono ?_); rintro e w' ⟨rfl, ⟨nd, rfl⟩⟩) | (go_at_call 16; (with_reducible refine (class_Pages.calls a0 a1 t115 _ A12.out).mono ?_); rintro e w18 ⟨rfl, hb⟩; have n0_ := Aside0.mk (below_step (by repeat (first | (with_reducible first | exact HB.out | apply below_alloc | apply pw_below_drewN | apply below_drew1) | exact HB.out)) hb); clear HB; have HB := n0_; clear n0_; (try clear hb); (try clear hb2); (try clear hk); (try clear hi)) | (go_at_call 17; (with_reducible refine (tilthref01_Pages.calls kj4 a0 a1 t116 _ A13.out).mono ?_); rintro e w' ⟨rfl, ⟨nd, rfl⟩⟩) | (go_at_call 18; (with_reducible refine (class_Large.calls kj4 a0 a1 t117 _ A15.out).mono ?_); rintro e w' ⟨rfl, ⟨nd, rfl⟩⟩) | (go_at_call 14; (with_reducible refine (tilthref01_Round.calls kj4 a1 t118 _ A16.out).mono ?_); rintro e w' ⟨rfl, ⟨nd, rfl⟩⟩))
                go_ret
                exact ⟨by first | rfl | (simp [errW_none, errW_some] <;> rfl) | (simp [*, errW_none, errW_some] <;> rfl), by repeat (first | (with_reducible first | exact HB.out | apply below_alloc | apply pw_below_drewN | apply below_drew1) | exact HB.out)⟩
              · rw [if_neg c14] at H
                have c14b0 : (t115 == t116) = false := beq_eq_false_iff_ne.mpr c14
                have c14b1 : (t115 != t116) = true := bne_iff_ne.mpr c14
                obtain rfl := Option.some.inj H
                go_wp2_with (first | ((with_reducible refine gate_callee (f := 12) rfl ?_); refine goesL_ (some 15) rfl rfl Try.func12 (by kernel_rfl) rfl #[] rfl (by (try simp only [List.map_toArray, List.map_cons, List.map_nil]); first | done | rfl | (simp only [List.length_drop, List.length_take]; rfl)) ?_; (with_reducible refine (tilthlaw04_awake.calls kj4  true _ A8.out).mono ?_); rintro e w19 ⟨rfl, hb⟩; refine ⟨_, rfl, ?_⟩; have n0_ := Aside0.mk (below_step (by repeat (first | (with_reducible first | exact HB.out | apply below_alloc | apply pw_below_drewN | apply below_drew1) | exact HB.out)) hb); clear HB; have HB := n0_; clear n0_; (try clear hb); (try clear hb2); (try clear hk); (try clear hi)) | (go_at_call 15; (with_reducible refine (class_Cells.calls a0 a1 t114 _ A10.out).mono ?_); rintro e w' ⟨rfl, ⟨nd, rfl⟩⟩) | (go_at_call 16; (with_reducible refine (class_Pages.calls a0 a1 t115 _ A12.out).mono ?_); rintro e w20 ⟨rfl, hb⟩; have n0_ := Aside0.mk (below_step (by repeat (first | (with_reducible first | exact HB.out | apply below_alloc | apply pw_below_drewN | apply below_drew1) | exact HB.out)) hb); clear HB; have HB := n0_; clear n0_; (try clear hb); (try clear hb2); (try clear hk); (try clear hi)) | (go_at_call 17; (with_reducible refine (tilthref01_Pages.calls kj4 a0 a1 t116 _ A13.out).mono ?_); rintro e w' ⟨rfl, ⟨nd, rfl⟩⟩))
                go_ret
                exact ⟨by first | rfl | (simp [errW_none, errW_some] <;> rfl) | (simp [*, errW_none, errW_some] <;> rfl), by repeat (first | (with_reducible first | exact HB.out | apply below_alloc | apply pw_below_drewN | apply below_drew1) | exact HB.out)⟩
            · rw [if_neg c11] at H
              have c11b0 : (t114 == x5_4) = false := beq_eq_false_iff_ne.mpr c11
              have c11b1 : (t114 != x5_4) = true := bne_iff_ne.mpr c11
              obtain rfl := Option.some.inj H
              go_wp2_with (first | ((with_reducible refine gate_callee (f := 12) rfl ?_); refine goesL_ (some 15) rfl rfl Try.func12 (by kernel_rfl) rfl #[] rfl (by (try simp only [List.map_toArray, List.map_cons, List.map_nil]); first | done | rfl | (simp only [List.length_drop, List.length_take]; rfl)) ?_; (with_reducible refine (tilthlaw04_awake.calls kj4  true _ A8.out).mono ?_); rintro e w21 ⟨rfl, hb⟩; refine ⟨_, rfl, ?_⟩; have n0_ := Aside0.mk (below_step (by repeat (first | (with_reducible first | exact HB.out | apply below_alloc | apply pw_below_drewN | apply below_drew1) | exact HB.out)) hb); clear HB; have HB := n0_; clear n0_; (try clear hb); (try clear hb2); (try clear hk); (try clear hi)) | (go_at_call 15; (with_reducible refine (class_Cells.calls a0 a1 t114 _ A10.out).mono ?_); rintro e w' ⟨rfl, ⟨nd, rfl⟩⟩))
              go_ret
              exact ⟨by first | rfl | (simp [errW_none, errW_some] <;> rfl) | (simp [*, errW_none, errW_some] <;> rfl), by repeat (first | (with_reducible first | exact HB.out | apply below_alloc | apply pw_below_drewN | apply below_drew1) | exact HB.out)⟩
          · replace c9 := Bool.eq_false_iff.mpr c9
            subst c9
            have H1 : (some false) = some r := by rw [if_neg (show ¬ (false = true) by decide)] at H; exact H
            clear H
            have H := H1
            clear H1
            obtain rfl := Option.some.inj H
            go_wp2_with (first | ((with_reducible refine gate_callee (f := 12) rfl ?_); refine goesL_ (some 15) rfl rfl Try.func12 (by kernel_rfl) rfl #[] rfl (by (try simp only [List.map_toArray, List.map_cons, List.map_nil]); first | done | rfl | (simp only [List.length_drop, List.length_take]; rfl)) ?_; (with_reducible refine (tilthlaw04_awake.calls kj4  false _ A8.out).mono ?_); rintro e w22 ⟨rfl, hb⟩; refine ⟨_, rfl, ?_⟩; have n0_ := Aside0.mk (below_step (by repeat (first | (with_reducible first | exact HB.out | apply below_alloc | apply pw_below_drewN | apply below_drew1) | exact HB.out)) hb); clear HB; have HB := n0_; clear n0_; (try clear hb); (try clear hb2); (try clear hk); (try clear hi)))
            go_ret
            exact ⟨by first | rfl | (simp [errW_none, errW_some] <;> rfl) | (simp [*, errW_none, errW_some] <;> rfl), by repeat (first | (with_reducible first | exact HB.out | apply below_alloc | apply pw_below_drewN | apply below_drew1) | exact HB.out)⟩

/-- THE ONE PURE STATEMENT of tilthlaw04_ClassPages: yours. -/
def tilthlaw04_ClassPages.Pure : Prop := ∀ (a0 : Int) (a1 : Int), (Lit.int .i64 a0).wf = true → (Lit.int .i64 a1).wf = true → ∃ k, tilthlaw04_ClassPages.f k a0 a1 = some true
theorem tilthlaw04_ClassPages.walk (P : tilthlaw04_ClassPages.Pure) (a0 : Int) (a1 : Int) (w : World) (w0 : (Lit.int .i64 a0).wf = true) (w1 : (Lit.int .i64 a1).wf = true) :
    Calls Try.prog 4 #[.int .i64 a0, .int .i64 a1] w fun e w' => e = .returned (.bool true) ∧ Below w.heap.size w w' := by
  obtain ⟨k, h⟩ := P a0 a1 w0 w1
  refine (tilthlaw04_ClassPages.calls k a0 a1 true w h).mono ?_
  rintro e w' ⟨rfl, hd⟩
  exact ⟨rfl, hd⟩

end Go.Proofs.Ythkajdbegdclmaa.PClassPages
