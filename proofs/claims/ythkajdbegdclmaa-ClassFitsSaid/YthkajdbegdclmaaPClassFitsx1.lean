-- PRINTED BY print.sh 35421559b90ae4d0a3588c463048766b98c2df88dd9212a6774a882060cdf62d: not written by this session
import Derived.Test.YthkajdbegdclmaaPClassFitsx0
namespace Go.Proofs.Ythkajdbegdclmaa.PClassFits
open Go.RowKit Go.Proofs.YthkajdbegdclmaaW.PrintWords Go.Proofs.YthkajdbegdclmaaW.PrintLast Go.Proofs.YthkajdbegdclmaaW.PrintMore
attribute [local go_sem] max2_int min2_int max_two min_two max_three min_three max_four min_four   -- for this text's walks alone
set_option linter.unusedVariables false
set_option linter.unusedSimpArgs false

/-! ### class_Round: function 13 -/
mutual
def class_Round.l0 : Nat → Int → Int → Option (Int)
  | 0, _, _ => none
  | k + 1, x0, x3 => if x3 < x0 then (class_Round.j1 k x0 x3 (decide (x3 < 1099511627776))) else (class_Round.j1 k x0 x3 false)
def class_Round.j1 : Nat → Int → Int → Bool → Option (Int)
  | 0, _, _, _ => none
  | k + 1, x0, x3, x10 => if x10 = true then (if (wrap64 (x3 + (wrap64 (Int.tdiv x3 2)))) ≥ x0 then (some (wrap64 (x3 + (wrap64 (Int.tdiv x3 2))))) else (class_Round.l0 k x0 (wrap64 (x3 * 2)))) else (some x3)
end
def class_Round.f (k : Nat) (a0 : Int) : Option (Int) := class_Round.l0 k a0 4
theorem class_Round.mono_l : ∀ k, (∀ y0 y1, LeO (class_Round.l0 k y0 y1) (class_Round.l0 (k + 1) y0 y1)) ∧ (∀ y0 y1 y2, LeO (class_Round.j1 k y0 y1 y2) (class_Round.j1 (k + 1) y0 y1 y2))
  | 0 => ⟨fun _ _ r h => by simp [class_Round.l0] at h, fun _ _ _ r h => by simp [class_Round.j1] at h⟩
  | k + 1 => by
    obtain ⟨ih0, ih1⟩ := class_Round.mono_l k
    refine ⟨?_, ?_⟩
    · intro y0 y1
      unfold class_Round.l0
      repeat' first
      | (with_reducible exact ih0 _ _)
      | (with_reducible exact ih1 _ _ _)
      | (with_reducible exact LeO.refl _)
      | (with_reducible exact LeO.none _)
      | (with_reducible refine LeO.ite ?_ ?_)
      | (with_reducible refine LeO.bind ?_ (fun _ => ?_))
      | exact ih0 _ _
      | exact ih1 _ _ _
      | exact LeO.none _
      | refine LeO.ite ?_ ?_
      | refine LeO.bind ?_ (fun _ => ?_)
    · intro y0 y1 y2
      unfold class_Round.j1
      repeat' first
      | (with_reducible exact ih0 _ _)
      | (with_reducible exact ih1 _ _ _)
      | (with_reducible exact LeO.refl _)
      | (with_reducible exact LeO.none _)
      | (with_reducible refine LeO.ite ?_ ?_)
      | (with_reducible refine LeO.bind ?_ (fun _ => ?_))
      | exact ih0 _ _
      | exact ih1 _ _ _
      | exact LeO.none _
      | refine LeO.ite ?_ ?_
      | refine LeO.bind ?_ (fun _ => ?_)
theorem class_Round.mono : ∀ a0 k, LeO (class_Round.f k a0) (class_Round.f (k + 1) a0) := by
  intro a0 k
  obtain ⟨ih0, ih1⟩ := class_Round.mono_l k
  unfold class_Round.f
  repeat' first
      | (with_reducible exact ih0 _ _)
      | (with_reducible exact ih1 _ _ _)
      | (with_reducible exact LeO.refl _)
      | (with_reducible exact LeO.none _)
      | (with_reducible refine LeO.ite ?_ ?_)
      | (with_reducible refine LeO.bind ?_ (fun _ => ?_))
      | exact ih0 _ _
      | exact ih1 _ _ _
      | exact LeO.none _
      | refine LeO.ite ?_ ?_
      | refine LeO.bind ?_ (fun _ => ?_)
set_option maxHeartbeats 8000000 in
set_option maxRecDepth 100000 in
theorem class_Round.calls (k : Nat) (a0 : Int) (r : Int) (w : World) (h : class_Round.f k a0 = some r) :
    Calls Try.prog 13 #[.int .i64 a0] w fun e w' => e = .returned (.int .i64 r) ∧ Drawn0 w w' := by
  have H : (class_Round.l0 k a0 4) = some r := h
  clear h
  have H' := Aside0.mk H
  clear H
  go_enter Try.func13, Try.ntmps13
  go_wp2
  go_loopg [3] k (fun kq v3 w' => ∃ (x3_1 : Int), v3 = .int .i64 x3_1 ∧ Aside0 (class_Round.l0 kq a0 x3_1 = some r) ∧ Aside0 (kq ≤ k) ∧ Drawn0 w w')
  case atStart => exact ⟨(4), (by first | rfl | (simp; done) | (simp [*]; done)), H', ⟨Nat.le_refl _⟩, by repeat (first | exact Drawn0.refl _ | apply Drawn0.step)⟩
  case round =>
    clear H'
    try clear c1
    obtain ⟨x3_1, rfl, HA, HK1, ⟨m1, rfl⟩⟩ := hrel
    cases gk with
    | zero => exact absurd HA.out (by simp [class_Round.l0])
    | succ k1 =>
      have H := HA.out
      clear HA
      simp only [class_Round.l0] at H
      have HC2 := Aside0.mk H
      clear H
      go_upto_region 2 with (fail)
      go_cut [10] (fun v10 wc => ∃ (kq : Nat) (x10_1 : Bool), v10 = .bool x10_1 ∧ Aside0 (class_Round.j1 kq a0 x3_1 x10_1 = some r) ∧ Aside0 (kq ≤ k1) ∧ Drawn0 w wc)
      case first =>
        have H := HC2.out
        clear HC2
        by_cases c3 : x3_1 < a0
        · rw [if_pos c3] at H
          have c3b0 : decide (x3_1 < a0) = true := decide_eq_true c3
          clear c3
          (first | rw [c3b0] | (simp only [i64_w, i32_w]; rw [c3b0]) | skip)
          have H' := Aside0.mk H
          clear H
          go_wp2
          go_meet
          case rel => exact ⟨_, (decide (x3_1 < 1099511627776)), (by first | rfl | (simp; done) | (simp [*]; done)), H', ⟨by have := HK1.out; first | omega | exact Nat.le_refl _⟩, by repeat (first | exact Drawn0.refl _ | apply Drawn0.step)⟩
        · rw [if_neg c3] at H
          have c3b0 : decide (x3_1 < a0) = false := decide_eq_false c3
          clear c3
          (first | rw [c3b0] | (simp only [i64_w, i32_w]; rw [c3b0]) | skip)
          have H' := Aside0.mk H
          clear H
          go_wp2
          go_meet
          case rel => exact ⟨_, (false), (by first | rfl | (simp; done) | (simp [*]; done)), H', ⟨by have := HK1.out; first | omega | exact Nat.le_refl _⟩, by repeat (first | exact Drawn0.refl _ | apply Drawn0.step)⟩
      case rest =>
        clear HC2
        try clear c1
        try clear p2
        try clear c3
        try clear c3b0
        obtain ⟨kq, x10_1, rfl, HA, HJ1, ⟨mc1, rfl⟩⟩ := hcut
        cases kq with
        | zero => exact absurd HA.out (by simp [class_Round.j1])
        | succ kj1 =>
          have H := HA.out
          clear HA
          simp only [class_Round.j1] at H
          by_cases c4 : x10_1 = true
          · subst c4
            have H1 : (if (wrap64 (x3_1 + (wrap64 (Int.tdiv x3_1 2)))) ≥ a0 then (some (wrap64 (x3_1 + (wrap64 (Int.tdiv x3_1 2))))) else (class_Round.l0 kj1 a0 (wrap64 (x3_1 * 2)))) = some r := by rw [if_pos rfl] at H; exact H
            clear H
            have H := H1
            clear H1
            by_cases c5 : (wrap64 (x3_1 + (wrap64 (Int.tdiv x3_1 2)))) ≥ a0
            · rw [if_pos c5] at H
              have c5b0 : decide (a0 ≤ (wrap64 (x3_1 + (wrap64 (Int.tdiv x3_1 2))))) = true := decide_eq_true c5
              clear c5
              obtain rfl := Option.some.inj H
              go_wp2
              go_ret
              exact ⟨by first | rfl | (simp; done) | (simp [*]; done), by repeat (first | exact Drawn0.refl _ | apply Drawn0.step)⟩
            · rw [if_neg c5] at H
              have c5b0 : decide (a0 ≤ (wrap64 (x3_1 + (wrap64 (Int.tdiv x3_1 2))))) = false := decide_eq_false c5
              clear c5
              have H' := Aside0.mk H
              clear H
              go_wp2
              go_roundg kj1
              case measure => have := HK1.out; have := HJ1.out; omega
              case rel => exact ⟨(wrap64 (x3_1 * 2)), (by first | rfl | (simp; done) | (simp [*]; done)), H', ⟨by have := HK1.out; have := HJ1.out; omega⟩, by repeat (first | exact Drawn0.refl _ | apply Drawn0.step)⟩
          · replace c4 := Bool.eq_false_iff.mpr c4
            subst c4
            have H1 : (some x3_1) = some r := by rw [if_neg (show ¬ (false = true) by decide)] at H; exact H
            clear H
            have H := H1
            clear H1
            obtain rfl := Option.some.inj H
            go_wp2
            go_ret
            exact ⟨by first | rfl | (simp; done) | (simp [*]; done), by repeat (first | exact Drawn0.refl _ | apply Drawn0.step)⟩

/-! ### tilthref01_Round: function 14 -/
def tilthref01_Round.l0 : Nat → Int → Int → Int → Option (Int)
  | 0, _, _, _ => none
  | k + 1, x0, x3, x4 => if x3 < 1099511627776 then (if x3 ≥ x0 then (some x3) else (if x4 ≥ x0 then (some x4) else (tilthref01_Round.l0 k x0 (wrap64 (2 * x3)) (wrap64 (2 * x4))))) else (some x3)
def tilthref01_Round.f (k : Nat) (a0 : Int) : Option (Int) := tilthref01_Round.l0 k a0 4 6
theorem tilthref01_Round.mono_l : ∀ k, (∀ y0 y1 y2, LeO (tilthref01_Round.l0 k y0 y1 y2) (tilthref01_Round.l0 (k + 1) y0 y1 y2))
  | 0 => fun _ _ _ r h => by simp [tilthref01_Round.l0] at h
  | k + 1 => by
    have ih0 := tilthref01_Round.mono_l k
    · intro y0 y1 y2
      unfold tilthref01_Round.l0
      repeat' first
      | (with_reducible exact ih0 _ _ _)
      | (with_reducible exact LeO.refl _)
      | (with_reducible exact LeO.none _)
      | (with_reducible refine LeO.ite ?_ ?_)
      | (with_reducible refine LeO.bind ?_ (fun _ => ?_))
      | exact ih0 _ _ _
      | exact LeO.none _
      | refine LeO.ite ?_ ?_
      | refine LeO.bind ?_ (fun _ => ?_)
theorem tilthref01_Round.mono : ∀ a0 k, LeO (tilthref01_Round.f k a0) (tilthref01_Round.f (k + 1) a0) := by
  intro a0 k
  have ih0 := tilthref01_Round.mono_l k
  unfold tilthref01_Round.f
  repeat' first
      | (with_reducible exact ih0 _ _ _)
      | (with_reducible exact LeO.refl _)
      | (with_reducible exact LeO.none _)
      | (with_reducible refine LeO.ite ?_ ?_)
      | (with_reducible refine LeO.bind ?_ (fun _ => ?_))
      | exact ih0 _ _ _
      | exact LeO.none _
      | refine LeO.ite ?_ ?_
      | refine LeO.bind ?_ (fun _ => ?_)
set_option maxHeartbeats 8000000 in
set_option maxRecDepth 100000 in
theorem tilthref01_Round.calls (k : Nat) (a0 : Int) (r : Int) (w : World) (h : tilthref01_Round.f k a0 = some r) :
    Calls Try.prog 14 #[.int .i64 a0] w fun e w' => e = .returned (.int .i64 r) ∧ Drawn0 w w' := by
  have H : (tilthref01_Round.l0 k a0 4 6) = some r := h
  clear h
  have H' := Aside0.mk H
  clear H
  go_enter Try.func14, Try.ntmps14
  go_wp2
  go_loopg [3, 4] k (fun kq v3 v4 w' => ∃ (x3_1 : Int) (x4_1 : Int), v3 = .int .i64 x3_1 ∧ v4 = .int .i64 x4_1 ∧ Aside0 (tilthref01_Round.l0 kq a0 x3_1 x4_1 = some r) ∧ Aside0 (kq ≤ k) ∧ Drawn0 w w')
  case atStart => exact ⟨(4), (6), (by first | rfl | (simp; done) | (simp [*]; done)), (by first | rfl | (simp; done) | (simp [*]; done)), H', ⟨Nat.le_refl _⟩, by repeat (first | exact Drawn0.refl _ | apply Drawn0.step)⟩
  case round =>
    clear H'
    try clear c1
    obtain ⟨x3_1, x4_1, rfl, rfl, HA, HK1, ⟨m1, rfl⟩⟩ := hrel
    cases gk with
    | zero => exact absurd HA.out (by simp [tilthref01_Round.l0])
    | succ k1 =>
      have H := HA.out
      clear HA
      simp only [tilthref01_Round.l0] at H
      by_cases c2 : x3_1 < 1099511627776
      · rw [if_pos c2] at H
        have c2b0 : decide (x3_1 < 1099511627776) = true := decide_eq_true c2
        clear c2
        by_cases c3 : x3_1 ≥ a0
        · rw [if_pos c3] at H
          have c3b0 : decide (a0 ≤ x3_1) = true := decide_eq_true c3
          clear c3
          obtain rfl := Option.some.inj H
          go_wp2
          go_ret
          exact ⟨by first | rfl | (simp; done) | (simp [*]; done), by repeat (first | exact Drawn0.refl _ | apply Drawn0.step)⟩
        · rw [if_neg c3] at H
          have c3b0 : decide (a0 ≤ x3_1) = false := decide_eq_false c3
          clear c3
          by_cases c4 : x4_1 ≥ a0
          · rw [if_pos c4] at H
            have c4b0 : decide (a0 ≤ x4_1) = true := decide_eq_true c4
            clear c4
            obtain rfl := Option.some.inj H
            go_wp2
            go_ret
            exact ⟨by first | rfl | (simp; done) | (simp [*]; done), by repeat (first | exact Drawn0.refl _ | apply Drawn0.step)⟩
          · rw [if_neg c4] at H
            have c4b0 : decide (a0 ≤ x4_1) = false := decide_eq_false c4
            clear c4
            have H' := Aside0.mk H
            clear H
            go_wp2
            go_roundg k1
            case measure => have := HK1.out; omega
            case rel => exact ⟨(wrap64 (2 * x3_1)), (wrap64 (2 * x4_1)), (by first | rfl | (simp; done) | (simp [*]; done)), (by first | rfl | (simp; done) | (simp [*]; done)), H', ⟨by have := HK1.out; omega⟩, by repeat (first | exact Drawn0.refl _ | apply Drawn0.step)⟩
      · rw [if_neg c2] at H
        have c2b0 : decide (x3_1 < 1099511627776) = false := decide_eq_false c2
        clear c2
        obtain rfl := Option.some.inj H
        go_wp2
        go_ret
        exact ⟨by first | rfl | (simp; done) | (simp [*]; done), by repeat (first | exact Drawn0.refl _ | apply Drawn0.step)⟩

/-! ### class_Cells: function 15 -/
def class_Cells.f (a0 : Int) (a1 : Int) : Option (Int) := if a1 < 1 then (some 0) else (if a0 < 1 then (some 0) else (if a1 = 0 then (none) else (some (wrap64 (Int.tdiv a0 a1)))))
set_option maxHeartbeats 8000000 in
set_option maxRecDepth 100000 in
theorem class_Cells.calls (a0 : Int) (a1 : Int) (r : Int) (w : World) (h : class_Cells.f a0 a1 = some r) :
    Calls Try.prog 15 #[.int .i64 a0, .int .i64 a1] w fun e w' => e = .returned (.int .i64 r) ∧ Drawn0 w w' := by
  have H : (if a1 < 1 then (some 0) else (if a0 < 1 then (some 0) else (if a1 = 0 then (none) else (some (wrap64 (Int.tdiv a0 a1)))))) = some r := h
  clear h
  by_cases c3 : a1 < 1
  · rw [if_pos c3] at H
    have c3b0 : decide (a1 < 1) = true := decide_eq_true c3
    clear c3
    obtain rfl := Option.some.inj H
    go_enter Try.func15, Try.ntmps15
    go_wp2
    go_ret
    exact ⟨by first | rfl | (simp; done) | (simp [*]; done), by repeat (first | exact Drawn0.refl _ | apply Drawn0.step)⟩
  · rw [if_neg c3] at H
    have c3b0 : decide (a1 < 1) = false := decide_eq_false c3
    clear c3
    by_cases c4 : a0 < 1
    · rw [if_pos c4] at H
      have c4b0 : decide (a0 < 1) = true := decide_eq_true c4
      clear c4
      obtain rfl := Option.some.inj H
      go_enter Try.func15, Try.ntmps15
      go_wp2
      go_ret
      exact ⟨by first | rfl | (simp; done) | (simp [*]; done), by repeat (first | exact Drawn0.refl _ | apply Drawn0.step)⟩
    · rw [if_neg c4] at H
      have c4b0 : decide (a0 < 1) = false := decide_eq_false c4
      clear c4
      by_cases c5 : a1 = 0
      · rw [if_pos c5] at H
        exact absurd H (by simp)
      · rw [if_neg c5] at H
        have c5b0 : (a1 == 0) = false := beq_eq_false_iff_ne.mpr c5
        have c5b1 : (a1 != 0) = true := bne_iff_ne.mpr c5
        obtain rfl := Option.some.inj H
        go_enter Try.func15, Try.ntmps15
        go_wp2
        go_ret
        exact ⟨by first | rfl | (simp; done) | (simp [*]; done), by repeat (first | exact Drawn0.refl _ | apply Drawn0.step)⟩

/-! ### class_Pages: function 16 -/
def class_Pages.f (a0 : Int) (a1 : Int) : Option (Int) := if a0 < 1 then (some 0) else (if a1 < 1 then (some 0) else (if a0 = 0 then (none) else (some (wrap64 ((wrap64 (Int.tdiv a1 a0)) + (mn (Int.tmod a1 a0) 1))))))
set_option maxHeartbeats 8000000 in
set_option maxRecDepth 100000 in
theorem class_Pages.calls (a0 : Int) (a1 : Int) (r : Int) (w : World) (h : class_Pages.f a0 a1 = some r) :
    Calls Try.prog 16 #[.int .i64 a0, .int .i64 a1] w fun e w' => e = .returned (.int .i64 r) ∧ Below w.heap.size w w' := by
  have HB := Aside0.mk (Below.refl w.heap.size w)
  have H : (if a0 < 1 then (some 0) else (if a1 < 1 then (some 0) else (if a0 = 0 then (none) else (some (wrap64 ((wrap64 (Int.tdiv a1 a0)) + (mn (Int.tmod a1 a0) 1))))))) = some r := h
  clear h
  by_cases c3 : a0 < 1
  · rw [if_pos c3] at H
    have c3b0 : decide (a0 < 1) = true := decide_eq_true c3
    clear c3
    obtain rfl := Option.some.inj H
    go_enter Try.func16, Try.ntmps16
    go_wp2
    repeat (go_quiet (fail); try go_wp2)
    go_ret
    exact ⟨by first | rfl | (simp [errW_none, errW_some] <;> rfl) | (simp [*, errW_none, errW_some] <;> rfl), by repeat (first | (with_reducible first | exact HB.out | apply below_alloc | apply pw_below_drewN | apply below_drew1) | exact HB.out)⟩
  · rw [if_neg c3] at H
    have c3b0 : decide (a0 < 1) = false := decide_eq_false c3
    clear c3
    by_cases c4 : a1 < 1
    · rw [if_pos c4] at H
      have c4b0 : decide (a1 < 1) = true := decide_eq_true c4
      clear c4
      obtain rfl := Option.some.inj H
      go_enter Try.func16, Try.ntmps16
      go_wp2
      repeat (go_quiet (fail); try go_wp2)
      go_ret
      exact ⟨by first | rfl | (simp [errW_none, errW_some] <;> rfl) | (simp [*, errW_none, errW_some] <;> rfl), by repeat (first | (with_reducible first | exact HB.out | apply below_alloc | apply pw_below_drewN | apply below_drew1) | exact HB.out)⟩
    · rw [if_neg c4] at H
      have c4b0 : decide (a1 < 1) = false := decide_eq_false c4
      clear c4
      by_cases c5 : a0 = 0
      · rw [if_pos c5] at H
        exact absurd H (by simp)
      · rw [if_neg c5] at H
        have c5b0 : (a0 == 0) = false := beq_eq_false_iff_ne.mpr c5
        have c5b1 : (a0 != 0) = true := bne_iff_ne.mpr c5
        obtain ⟨ji6, hji6⟩ : ∃ j_ : Int, (mn (Int.tmod a1 a0) 1) = j_ := ⟨_, rfl⟩
        replace H : (some (wrap64 ((wrap64 (Int.tdiv a1 a0)) + (ji6)))) = some r := by first | (rw [hji6] at H; exact H) | (simp only [hji6] at H ⊢; exact H)
        (try (have hji6h : ji6 ≤ 1 := by (rw [← hji6]; unfold mn; (repeat' split) <;> omega)))
        (try (have hji6g : ji6 ≤ 64 := by omega))
        have hji6_ : (if 1 < (Int.tmod a1 a0) then 1 else (Int.tmod a1 a0)) = ji6 := hji6
        obtain rfl := Option.some.inj H
        go_enter Try.func16, Try.ntmps16
        go_wp2
        repeat (go_quiet (fail); try go_wp2)
        go_ret
        exact ⟨by first | rfl | (simp [errW_none, errW_some] <;> rfl) | (simp only [← hji6]; first | rfl | (simp [errW_none, errW_some] <;> rfl)) | (simp [*, errW_none, errW_some] <;> rfl), by repeat (first | (with_reducible first | exact HB.out | apply below_alloc | apply pw_below_drewN | apply below_drew1) | exact HB.out)⟩

/-! ### class_Large: function 18 -/
def class_Large.f (k : Nat) (a0 : Int) (a1 : Int) : Option (Bool) := (class_Round.f k a1).bind fun t101 => (some (decide (t101 > (wrap64 (Int.tdiv a0 2)))))
theorem class_Large.mono : ∀ a0 a1 k, LeO (class_Large.f k a0 a1) (class_Large.f (k + 1) a0 a1) := by
  intro a0 a1 k
  unfold class_Large.f
  repeat' first
      | (with_reducible exact class_Round.mono _ _)
      | (with_reducible exact LeO.refl _)
      | (with_reducible exact LeO.none _)
      | (with_reducible refine LeO.ite ?_ ?_)
      | (with_reducible refine LeO.bind ?_ (fun _ => ?_))
      | exact class_Round.mono _ _
      | exact LeO.none _
      | refine LeO.ite ?_ ?_
      | refine LeO.bind ?_ (fun _ => ?_)
set_option maxHeartbeats 8000000 in
set_option maxRecDepth 100000 in
theorem class_Large.calls (k : Nat) (a0 : Int) (a1 : Int) (r : Bool) (w : World) (h : class_Large.f k a0 a1 = some r) :
    Calls Try.prog 18 #[.int .i64 a0, .int .i64 a1] w fun e w' => e = .returned (.bool r) ∧ Drawn0 w w' := by
  have H : ((class_Round.f k a1).bind fun t101 => (some (decide (t101 > (wrap64 (Int.tdiv a0 2)))))) = some r := h
  clear h
  replace H := Option.bind_eq_some_iff.mp H
  obtain ⟨t101, A30, H⟩ := H
  replace H : (some (decide (t101 > (wrap64 (Int.tdiv a0 2))))) = some r := H
  have A3 := Aside0.mk A30
  clear A30
  obtain rfl := Option.some.inj H
  go_enter Try.func18, Try.ntmps18
  go_wp2_with (first | ((with_reducible refine gate_callee (f := 13) rfl ?_); refine goesL_ (some 6) rfl rfl Try.func13 (by kernel_rfl) rfl #[.int .i64 a1] rfl (by (try simp only [List.map_toArray, List.map_cons, List.map_nil]); first | done | rfl | (simp only [List.length_drop, List.length_take]; rfl)) ?_; (with_reducible refine (class_Round.calls k a1 t101 _ A3.out).mono ?_); rintro e w' ⟨rfl, ⟨nd, rfl⟩⟩; refine ⟨_, rfl, ?_⟩))
  go_ret
  exact ⟨by first | rfl | (simp; done) | (simp [*]; done), by repeat (first | exact Drawn0.refl _ | apply Drawn0.step)⟩

/-! ### class_Cell: function 19 -/
def class_Cell.f (k : Nat) (a0 : Int) (a1 : Int) : Option (Int) := (class_Large.f k a0 a1).bind fun t102 => (if t102 = true then ((class_Pages.f a0 a1).bind fun t103 => (some (wrap64 (t103 * (mx a0 0))))) else ((class_Round.f k a1).bind fun t104 => (some t104)))
theorem class_Cell.mono : ∀ a0 a1 k, LeO (class_Cell.f k a0 a1) (class_Cell.f (k + 1) a0 a1) := by
  intro a0 a1 k
  unfold class_Cell.f
  repeat' first
      | (with_reducible exact class_Large.mono _ _ _)
      | (with_reducible exact class_Round.mono _ _)
      | (with_reducible exact LeO.refl _)
      | (with_reducible exact LeO.none _)
      | (with_reducible refine LeO.ite ?_ ?_)
      | (with_reducible refine LeO.bind ?_ (fun _ => ?_))
      | exact class_Large.mono _ _ _
      | exact class_Round.mono _ _
      | exact LeO.none _
      | refine LeO.ite ?_ ?_
      | refine LeO.bind ?_ (fun _ => ?_)
set_option maxHeartbeats 8000000 in
set_option maxRecDepth 100000 in
theorem class_Cell.calls (k : Nat) (a0 : Int) (a1 : Int) (r : Int) (w : World) (h : class_Cell.f k a0 a1 = some r) :
    Calls Try.prog 19 #[.int .i64 a0, .int .i64 a1] w fun e w' => e = .returned (.int .i64 r) ∧ Below w.heap.size w w' := by
  have HB := Aside0.mk (Below.refl w.heap.size w)
  have H : ((class_Large.f k a0 a1).bind fun t102 => (if t102 = true then ((class_Pages.f a0 a1).bind fun t103 => (some (wrap64 (t103 * (mx a0 0))))) else ((class_Round.f k a1).bind fun t104 => (some t104)))) = some r := h
  clear h
  replace H := Option.bind_eq_some_iff.mp H
  obtain ⟨t102, A30, H⟩ := H
  replace H : (if t102 = true then ((class_Pages.f a0 a1).bind fun t103 => (some (wrap64 (t103 * (mx a0 0))))) else ((class_Round.f k a1).bind fun t104 => (some t104))) = some r := H
  have A3 := Aside0.mk A30
  clear A30
  by_cases c4 : t102 = true
  · subst c4
    have H1 : ((class_Pages.f a0 a1).bind fun t103 => (some (wrap64 (t103 * (mx a0 0))))) = some r := by rw [if_pos rfl] at H; exact H
    clear H
    have H := H1
    clear H1
    replace H := Option.bind_eq_some_iff.mp H
    obtain ⟨t103, A50, H⟩ := H
    replace H : (some (wrap64 (t103 * (mx a0 0)))) = some r := H
    have A5 := Aside0.mk A50
    clear A50
    obtain ⟨ji6, hji6⟩ : ∃ j_ : Int, (mx a0 0) = j_ := ⟨_, rfl⟩
    replace H : (some (wrap64 (t103 * (ji6)))) = some r := by first | (rw [hji6] at H; exact H) | (simp only [hji6] at H ⊢; exact H)
    (try rw [hji6] at A3)
    (try rw [hji6] at A5)
    (try (have hji6l : 0 ≤ ji6 := by (rw [← hji6]; unfold mx; (repeat' split) <;> omega)))
    (try (have hji6m : 0 ≤ ji6 := by omega))
    have hji6_ : (if a0 < 0 then 0 else a0) = ji6 := hji6
    obtain rfl := Option.some.inj H
    go_enter Try.func19, Try.ntmps19
    go_wp2_with (first | ((with_reducible refine gate_callee (f := 18) rfl ?_); refine goesL_ (some 7) rfl rfl Try.func18 (by kernel_rfl) rfl #[.int .i64 a0, .int .i64 a1] rfl (by (try simp only [List.map_toArray, List.map_cons, List.map_nil]); first | done | rfl | (simp only [List.length_drop, List.length_take]; rfl)) ?_; (with_reducible refine (class_Large.calls k a0 a1 true _ A3.out).mono ?_); rintro e w' ⟨rfl, ⟨nd, rfl⟩⟩; refine ⟨_, rfl, ?_⟩) | ((with_reducible refine gate_callee (f := 16) rfl ?_); refine goesL_ (some 10) rfl rfl Try.func16 (by kernel_rfl) rfl #[.int .i64 a0, .int .i64 a1] rfl (by (try simp only [List.map_toArray, List.map_cons, List.map_nil]); first | done | rfl | (simp only [List.length_drop, List.length_take]; rfl)) ?_; (with_reducible refine (class_Pages.calls a0 a1 t103 _ A5.out).mono ?_); rintro e w7 ⟨rfl, hb⟩; refine ⟨_, rfl, ?_⟩; have n0_ := Aside0.mk (below_step (by repeat (first | (with_reducible first | exact HB.out | apply below_alloc | apply pw_below_drewN | apply below_drew1) | exact HB.out)) hb); clear HB; have HB := n0_; clear n0_; (try clear hb); (try clear hb2); (try clear hk); (try clear hi)))
    go_ret
    exact ⟨by first | rfl | (simp [errW_none, errW_some] <;> rfl) | (simp only [← hji6]; first | rfl | (simp [errW_none, errW_some] <;> rfl)) | (simp [*, errW_none, errW_some] <;> rfl), by repeat (first | (with_reducible first | exact HB.out | apply below_alloc | apply pw_below_drewN | apply below_drew1) | exact HB.out)⟩
  · replace c4 := Bool.eq_false_iff.mpr c4
    subst c4
    have H1 : ((class_Round.f k a1).bind fun t104 => (some t104)) = some r := by rw [if_neg (show ¬ (false = true) by decide)] at H; exact H
    clear H
    have H := H1
    clear H1
    replace H := Option.bind_eq_some_iff.mp H
    obtain ⟨t104, A80, H⟩ := H
    replace H : (some t104) = some r := H
    have A8 := Aside0.mk A80
    clear A80
    obtain rfl := Option.some.inj H
    go_enter Try.func19, Try.ntmps19
    go_wp2_with (first | ((with_reducible refine gate_callee (f := 18) rfl ?_); refine goesL_ (some 7) rfl rfl Try.func18 (by kernel_rfl) rfl #[.int .i64 a0, .int .i64 a1] rfl (by (try simp only [List.map_toArray, List.map_cons, List.map_nil]); first | done | rfl | (simp only [List.length_drop, List.length_take]; rfl)) ?_; (with_reducible refine (class_Large.calls k a0 a1 false _ A3.out).mono ?_); rintro e w' ⟨rfl, ⟨nd, rfl⟩⟩; refine ⟨_, rfl, ?_⟩) | ((with_reducible refine gate_callee (f := 13) rfl ?_); refine goesL_ (some 15) rfl rfl Try.func13 (by kernel_rfl) rfl #[.int .i64 a1] rfl (by (try simp only [List.map_toArray, List.map_cons, List.map_nil]); first | done | rfl | (simp only [List.length_drop, List.length_take]; rfl)) ?_; (with_reducible refine (class_Round.calls k a1 t104 _ A8.out).mono ?_); rintro e w' ⟨rfl, ⟨nd, rfl⟩⟩; refine ⟨_, rfl, ?_⟩))
    go_ret
    exact ⟨by first | rfl | (simp [errW_none, errW_some] <;> rfl) | (simp [*, errW_none, errW_some] <;> rfl), by repeat (first | (with_reducible first | exact HB.out | apply below_alloc | apply pw_below_drewN | apply below_drew1) | exact HB.out)⟩

/-! ### tilthlaw04_awake: function 12 -/
def tilthlaw04_awake.f (k : Nat)  : Option (Bool) := (class_Round.f k 5).bind fun t105 => (if t105 = 6 then ((class_Round.f k 13).bind fun t106 => (if t106 = 16 then ((class_Cells.f 64 12).bind fun t107 => (if t107 = 5 then ((class_Large.f k 32 17).bind fun t108 => (if t108 = true then ((class_Large.f k 32 16).bind fun t109 => (if t109 = true then (some false) else ((class_Pages.f 32 65).bind fun t110 => (if t110 = 3 then ((class_Cell.f k 32 65).bind fun t111 => (if t111 = 96 then ((tilthref01_Round.f k 7).bind fun t112 => (some (t112 == 8))) else (some false))) else (some false))))) else (some false))) else (some false))) else (some false))) else (some false))
theorem tilthlaw04_awake.mono : ∀ k, LeO (tilthlaw04_awake.f k ) (tilthlaw04_awake.f (k + 1) ) := by
  intro  k
  unfold tilthlaw04_awake.f
  repeat' first
      | (with_reducible exact class_Cell.mono _ _ _)
      | (with_reducible exact class_Large.mono _ _ _)
      | (with_reducible exact class_Round.mono _ _)
      | (with_reducible exact tilthref01_Round.mono _ _)
      | (with_reducible exact LeO.refl _)
      | (with_reducible exact LeO.none _)
      | (with_reducible refine LeO.ite ?_ ?_)
      | (with_reducible refine LeO.bind ?_ (fun _ => ?_))
      | exact class_Cell.mono _ _ _
      | exact class_Large.mono _ _ _
      | exact class_Round.mono _ _
      | exact tilthref01_Round.mono _ _
      | exact LeO.none _
      | refine LeO.ite ?_ ?_
      | refine LeO.bind ?_ (fun _ => ?_)
set_option maxHeartbeats 8000000 in
set_option maxRecDepth 100000 in
theorem tilthlaw04_awake.calls (k : Nat)  (r : Bool) (w : World) (h : tilthlaw04_awake.f k  = some r) :
    Calls Try.prog 12 #[] w fun e w' => e = .returned (.bool r) ∧ Below w.heap.size w w' := by
  have HB := Aside0.mk (Below.refl w.heap.size w)
  have H : ((class_Round.f k 5).bind fun t105 => (if t105 = 6 then ((class_Round.f k 13).bind fun t106 => (if t106 = 16 then ((class_Cells.f 64 12).bind fun t107 => (if t107 = 5 then ((class_Large.f k 32 17).bind fun t108 => (if t108 = true then ((class_Large.f k 32 16).bind fun t109 => (if t109 = true then (some false) else ((class_Pages.f 32 65).bind fun t110 => (if t110 = 3 then ((class_Cell.f k 32 65).bind fun t111 => (if t111 = 96 then ((tilthref01_Round.f k 7).bind fun t112 => (some (t112 == 8))) else (some false))) else (some false))))) else (some false))) else (some false))) else (some false))) else (some false))) = some r := h
  clear h
  replace H := Option.bind_eq_some_iff.mp H
  obtain ⟨t105, A10, H⟩ := H
  replace H : (if t105 = 6 then ((class_Round.f k 13).bind fun t106 => (if t106 = 16 then ((class_Cells.f 64 12).bind fun t107 => (if t107 = 5 then ((class_Large.f k 32 17).bind fun t108 => (if t108 = true then ((class_Large.f k 32 16).bind fun t109 => (if t109 = true then (some false) else ((class_Pages.f 32 65).bind fun t110 => (if t110 = 3 then ((class_Cell.f k 32 65).bind fun t111 => (if t111 = 96 then ((tilthref01_Round.f k 7).bind fun t112 => (some (t112 == 8))) else (some false))) else (some false))))) else (some false))) else (some false))) else (some false))) else (some false)) = some r := H
  have A1 := Aside0.mk A10
  clear A10
  by_cases c2 : t105 = 6
  · rw [if_pos c2] at H
    have c2b0 : (t105 == 6) = true := beq_iff_eq.mpr c2
    have c2b1 : (t105 != 6) = false := bne_eq_false_iff_eq.mpr c2
    clear c2
    replace H := Option.bind_eq_some_iff.mp H
    obtain ⟨t106, A30, H⟩ := H
    replace H : (if t106 = 16 then ((class_Cells.f 64 12).bind fun t107 => (if t107 = 5 then ((class_Large.f k 32 17).bind fun t108 => (if t108 = true then ((class_Large.f k 32 16).bind fun t109 => (if t109 = true then (some false) else ((class_Pages.f 32 65).bind fun t110 => (if t110 = 3 then ((class_Cell.f k 32 65).bind fun t111 => (if t111 = 96 then ((tilthref01_Round.f k 7).bind fun t112 => (some (t112 == 8))) else (some false))) else (some false))))) else (some false))) else (some false))) else (some false)) = some r := H
    have A3 := Aside0.mk A30
    clear A30
    by_cases c4 : t106 = 16
    · rw [if_pos c4] at H
      have c4b0 : (t106 == 16) = true := beq_iff_eq.mpr c4
      have c4b1 : (t106 != 16) = false := bne_eq_false_iff_eq.mpr c4
      clear c4
      replace H := Option.bind_eq_some_iff.mp H
      obtain ⟨t107, A50, H⟩ := H
      replace H : (if t107 = 5 then ((class_Large.f k 32 17).bind fun t108 => (if t108 = true then ((class_Large.f k 32 16).bind fun t109 => (if t109 = true then (some false) else ((class_Pages.f 32 65).bind fun t110 => (if t110 = 3 then ((class_Cell.f k 32 65).bind fun t111 => (if t111 = 96 then ((tilthref01_Round.f k 7).bind fun t112 => (some (t112 == 8))) else (some false))) else (some false))))) else (some false))) else (some false)) = some r := H
      have A5 := Aside0.mk A50
      clear A50
      by_cases c6 : t107 = 5
      · rw [if_pos c6] at H
        have c6b0 : (t107 == 5) = true := beq_iff_eq.mpr c6
        have c6b1 : (t107 != 5) = false := bne_eq_false_iff_eq.mpr c6
        clear c6
        replace H := Option.bind_eq_some_iff.mp H
        obtain ⟨t108, A70, H⟩ := H
        replace H : (if t108 = true then ((class_Large.f k 32 16).bind fun t109 => (if t109 = true then (some false) else ((class_Pages.f 32 65).bind fun t110 => (if t110 = 3 then ((class_Cell.f k 32 65).bind fun t111 => (if t111 = 96 then ((tilthref01_Round.f k 7).bind fun t112 => (some (t112 == 8))) else (some false))) else (some false))))) else (some false)) = some r := H
        have A7 := Aside0.mk A70
        clear A70
        by_cases c8 : t108 = true
        · subst c8
          have H1 : ((class_Large.f k 32 16).bind fun t109 => (if t109 = true then (some false) else ((class_Pages.f 32 65).bind fun t110 => (if t110 = 3 then ((class_Cell.f k 32 65).bind fun t111 => (if t111 = 96 then ((tilthref01_Round.f k 7).bind fun t112 => (some (t112 == 8))) else (some false))) else (some false))))) = some r := by rw [if_pos rfl] at H; exact H
          clear H
          have H := H1
          clear H1
          replace H := Option.bind_eq_some_iff.mp H
          obtain ⟨t109, A90, H⟩ := H
          replace H : (if t109 = true then (some false) else ((class_Pages.f 32 65).bind fun t110 => (if t110 = 3 then ((class_Cell.f k 32 65).bind fun t111 => (if t111 = 96 then ((tilthref01_Round.f k 7).bind fun t112 => (some (t112 == 8))) else (some false))) else (some false)))) = some r := H
          have A9 := Aside0.mk A90
          clear A90
          by_cases c10 : t109 = true
          · subst c10
            have H1 : (some false) = some r := by rw [if_pos rfl] at H; exact H
            clear H
            have H := H1
            clear H1
            obtain rfl := Option.some.inj H
            go_enter Try.func12, Try.ntmps12
            go_wp2_with (first | ((with_reducible refine gate_callee (f := 13) rfl ?_); refine goesL_ (some 1) rfl rfl Try.func13 (by kernel_rfl) rfl #[.int .i64 5] rfl (by (try simp only [List.map_toArray, List.map_cons, List.map_nil]); first | done | rfl | (simp only [List.length_drop, List.length_take]; rfl)) ?_; (with_reducible refine (class_Round.calls k 5 t105 _ A1.out).mono ?_); rintro e w' ⟨rfl, ⟨nd, rfl⟩⟩; refine ⟨_, rfl, ?_⟩) | (go_at_call 13; (with_reducible refine (class_Round.calls k 13 t106 _ A3.out).mono ?_); rintro e w' ⟨rfl, ⟨nd, rfl⟩⟩) | (go_at_call 15; (with_reducible refine (class_Cells.calls 64 12 t107 _ A5.out).mono ?_); rintro e w' ⟨rfl, ⟨nd, rfl⟩⟩) | (go_at_call 18; (with_reducible refine (class_Large.calls k 32 17 true _ A7.out).mono ?_); rintro e w' ⟨rfl, ⟨nd, rfl⟩⟩) | (go_at_call 18; (with_reducible refine (class_Large.calls k 32 16 true _ A9.out).mono ?_); rintro e w' ⟨rfl, ⟨nd, rfl⟩⟩))
            go_ret
            exact ⟨by first | rfl | (simp [errW_none, errW_some] <;> rfl) | (simp [*, errW_none, errW_some] <;> rfl), by repeat (first | (with_reducible first | exact HB.out | apply below_alloc | apply pw_below_drewN | apply below_drew1) | exact HB.out)⟩
          · replace c10 := Bool.eq_false_iff.mpr c10
            subst c10
            have H1 : ((class_Pages.f 32 65).bind fun t110 => (if t110 = 3 then ((class_Cell.f k 32 65).bind fun t111 => (if t111 = 96 then ((tilthref01_Round.f k 7).bind fun t112 => (some (t112 == 8))) else (some false))) else (some false))) = some r := by rw [if_neg (show ¬ (false = true) by decide)] at H; exact H
            clear H
            have H := H1
            clear H1
            replace H := Option.bind_eq_some_iff.mp H
            obtain ⟨t110, A110, H⟩ := H
            replace H : (if t110 = 3 then ((class_Cell.f k 32 65).bind fun t111 => (if t111 = 96 then ((tilthref01_Round.f k 7).bind fun t112 => (some (t112 == 8))) else (some false))) else (some false)) = some r := H
            have A11 := Aside0.mk A110
            clear A110
            by_cases c12 : t110 = 3
            · rw [if_pos c12] at H
              have c12b0 : (t110 == 3) = true := beq_iff_eq.mpr c12
              have c12b1 : (t110 != 3) = false := bne_eq_false_iff_eq.mpr c12
              clear c12
              replace H := Option.bind_eq_some_iff.mp H
              obtain ⟨t111, A130, H⟩ := H
              replace H : (if t111 = 96 then ((tilthref01_Round.f k 7).bind fun t112 => (some (t112 == 8))) else (some false)) = some r := H
              have A13 := Aside0.mk A130
              clear A130
              by_cases c14 : t111 = 96
              · rw [if_pos c14] at H
                have c14b0 : (t111 == 96) = true := beq_iff_eq.mpr c14
                have c14b1 : (t111 != 96) = false := bne_eq_false_iff_eq.mpr c14
                clear c14
                replace H := Option.bind_eq_some_iff.mp H
                obtain ⟨t112, A150, H⟩ := H
                replace H : (some (t112 == 8)) = some r := H
                have A15 := Aside0.mk A150
                clear A150
                obtain rfl := Option.some.inj H
                go_enter Try.func12, Try.ntmps12
                go_wp2_with (first | ((with_reducible refine gate_callee (f := 13) rfl ?_); refine goesL_ (some 1) rfl rfl Try.func13 (by kernel_rfl) rfl #[.int .i64 5] rfl (by (try simp only [List.map_toArray, List.map_cons, List.map_nil]); first | done | rfl | (simp only [List.length_drop, List.length_take]; rfl)) ?_; (with_reducible refine (class_Round.calls k 5 t105 _ A1.out).mono ?_); rintro e w' ⟨rfl, ⟨nd, rfl⟩⟩; refine ⟨_, rfl, ?_⟩) | (go_at_call 13; (with_reducible refine (class_Round.calls k 13 t106 _ A3.out).mono ?_); rintro e w' ⟨rfl, ⟨nd, rfl⟩⟩) | (go_at_call 15; (with_reducible refine (class_Cells.calls 64 12 t107 _ A5.out).mono ?_); rintro e w' ⟨rfl, ⟨nd, rfl⟩⟩) | (go_at_call 18; (with_reducible refine (class_Large.calls k 32 17 true _ A7.out).mono ?_); rintro e w' ⟨rfl, ⟨nd, rfl⟩⟩) | (go_at_call 18; (with_reducible refine (class_Large.calls k 32 16 false _ A9.out).mono ?_); rintro e w' ⟨rfl, ⟨nd, rfl⟩⟩) | (go_at_call 16; (with_reducible refine (class_Pages.calls 32 65 t110 _ A11.out).mono ?_); rintro e w16 ⟨rfl, hb⟩; have n0_ := Aside0.mk (below_step (by repeat (first | (with_reducible first | exact HB.out | apply below_alloc | apply pw_below_drewN | apply below_drew1) | exact HB.out)) hb); clear HB; have HB := n0_; clear n0_; (try clear hb); (try clear hb2); (try clear hk); (try clear hi)) | (go_at_call 19; (with_reducible refine (class_Cell.calls k 32 65 t111 _ A13.out).mono ?_); rintro e w17 ⟨rfl, hb⟩; have n0_ := Aside0.mk (below_step (by repeat (first | (with_reducible first | exact HB.out | apply below_alloc | apply pw_below_drewN | apply below_drew1) | exact HB.out)) hb); clear HB; have HB := n0_; clear n0_; (try clear hb); (try clear hb2); (try clear hk); (try clear hi)) | (go_at_call 14; (with_reducible refine (tilthref01_Round.calls k 7 t112 _ A15.out).mono ?_); rintro e w' ⟨rfl, ⟨nd, rfl⟩⟩))
                go_ret
                exact ⟨by first | rfl | (simp [errW_none, errW_some] <;> rfl) | (simp [*, errW_none, errW_some] <;> rfl), by repeat (first | (with_reducible first | exact HB.out | apply below_alloc | apply pw_below_drewN | apply below_drew1) | exact HB.out)⟩
              · rw [if_neg c14] at H
                have c14b0 : (t111 == 96) = false := beq_eq_false_iff_ne.mpr c14
                have c14b1 : (t111 != 96) = true := bne_iff_ne.mpr c14
                obtain rfl := Option.some.inj H
                go_enter Try.func12, Try.ntmps12
                go_wp2_with (first | ((with_reducible refine gate_callee (f := 13) rfl ?_); refine goesL_ (some 1) rfl rfl Try.func13 (by kernel_rfl) rfl #[.int .i64 5] rfl (by (try simp only [List.map_toArray, List.map_cons, List.map_nil]); first | done | rfl | (simp only [List.length_drop, List.length_take]; rfl)) ?_; (with_reducible refine (class_Round.calls k 5 t105 _ A1.out).mono ?_); rintro e w' ⟨rfl, ⟨nd, rfl⟩⟩; refine ⟨_, rfl, ?_⟩) | (go_at_call 13; (with_reducible refine (class_Round.calls k 13 t106 _ A3.out).mono ?_); rintro e w' ⟨rfl, ⟨nd, rfl⟩⟩) | (go_at_call 15; (with_reducible refine (class_Cells.calls 64 12 t107 _ A5.out).mono ?_); rintro e w' ⟨rfl, ⟨nd, rfl⟩⟩) | (go_at_call 18; (with_reducible refine (class_Large.calls k 32 17 true _ A7.out).mono ?_); rintro e w' ⟨rfl, ⟨nd, rfl⟩⟩) | (go_at_call 18; (with_reducible refine (class_Large.calls k 32 16 false _ A9.out).mono ?_); rintro e w' ⟨rfl, ⟨nd, rfl⟩⟩) | (go_at_call 16; (with_reducible refine (class_Pages.calls 32 65 t110 _ A11.out).mono ?_); rintro e w18 ⟨rfl, hb⟩; have n0_ := Aside0.mk (below_step (by repeat (first | (with_reducible first | exact HB.out | apply below_alloc | apply pw_below_drewN | apply below_drew1) | exact HB.out)) hb); clear HB; have HB := n0_; clear n0_; (try clear hb); (try clear hb2); (try clear hk); (try clear hi)) | (go_at_call 19; (with_reducible refine (class_Cell.calls k 32 65 t111 _ A13.out).mono ?_); rintro e w19 ⟨rfl, hb⟩; have n0_ := Aside0.mk (below_step (by repeat (first | (with_reducible first | exact HB.out | apply below_alloc | apply pw_below_drewN | apply below_drew1) | exact HB.out)) hb); clear HB; have HB := n0_; clear n0_; (try clear hb); (try clear hb2); (try clear hk); (try clear hi)))
                go_ret
                exact ⟨by first | rfl | (simp [errW_none, errW_some] <;> rfl) | (simp [*, errW_none, errW_some] <;> rfl), by repeat (first | (with_reducible first | exact HB.out | apply below_alloc | apply pw_below_drewN | apply below_drew1) | exact HB.out)⟩
            · rw [if_neg c12] at H
              have c12b0 : (t110 == 3) = false := beq_eq_false_iff_ne.mpr c12
              have c12b1 : (t110 != 3) = true := bne_iff_ne.mpr c12
              obtain rfl := Option.some.inj H
              go_enter Try.func12, Try.ntmps12
              go_wp2_with (first | ((with_reducible refine gate_callee (f := 13) rfl ?_); refine goesL_ (some 1) rfl rfl Try.func13 (by kernel_rfl) rfl #[.int .i64 5] rfl (by (try simp only [List.map_toArray, List.map_cons, List.map_nil]); first | done | rfl | (simp only [List.length_drop, List.length_take]; rfl)) ?_; (with_reducible refine (class_Round.calls k 5 t105 _ A1.out).mono ?_); rintro e w' ⟨rfl, ⟨nd, rfl⟩⟩; refine ⟨_, rfl, ?_⟩) | (go_at_call 13; (with_reducible refine (class_Round.calls k 13 t106 _ A3.out).mono ?_); rintro e w' ⟨rfl, ⟨nd, rfl⟩⟩) | (go_at_call 15; (with_reducible refine (class_Cells.calls 64 12 t107 _ A5.out).mono ?_); rintro e w' ⟨rfl, ⟨nd, rfl⟩⟩) | (go_at_call 18; (with_reducible refine (class_Large.calls k 32 17 true _ A7.out).mono ?_); rintro e w' ⟨rfl, ⟨nd, rfl⟩⟩) | (go_at_call 18; (with_reducible refine (class_Large.calls k 32 16 false _ A9.out).mono ?_); rintro e w' ⟨rfl, ⟨nd, rfl⟩⟩) | (go_at_call 16; (with_reducible refine (class_Pages.calls 32 65 t110 _ A11.out).mono ?_); rintro e w20 ⟨rfl, hb⟩; have n0_ := Aside0.mk (below_step (by repeat (first | (with_reducible first | exact HB.out | apply below_alloc | apply pw_below_drewN | apply below_drew1) | exact HB.out)) hb); clear HB; have HB := n0_; clear n0_; (try clear hb); (try clear hb2); (try clear hk); (try clear hi)))
              go_ret
              exact ⟨by first | rfl | (simp [errW_none, errW_some] <;> rfl) | (simp [*, errW_none, errW_some] <;> rfl), by repeat (first | (with_reducible first | exact HB.out | apply below_alloc | apply pw_below_drewN | apply below_drew1) | exact HB.out)⟩
        · replace c8 := Bool.eq_false_iff.mpr c8
          subst c8
          have H1 : (some false) = some r := by rw [if_neg (show ¬ (false = true) by decide)] at H; exact H
          clear H
          have H := H1
          clear H1
          obtain rfl := Option.some.inj H
          go_enter Try.func12, Try.ntmps12
          go_wp2_with (first | ((with_reducible refine gate_callee (f := 13) rfl ?_); refine goesL_ (some 1) rfl rfl Try.func13 (by kernel_rfl) rfl #[.int .i64 5] rfl (by (try simp only [List.map_toArray, List.map_cons, List.map_nil]); first | done | rfl | (simp only [List.length_drop, List.length_take]; rfl)) ?_; (with_reducible refine (class_Round.calls k 5 t105 _ A1.out).mono ?_); rintro e w' ⟨rfl, ⟨nd, rfl⟩⟩; refine ⟨_, rfl, ?_⟩) | (go_at_call 13; (with_reducible refine (class_Round.calls k 13 t106 _ A3.out).mono ?_); rintro e w' ⟨rfl, ⟨nd, rfl⟩⟩) | (go_at_call 15; (with_reducible refine (class_Cells.calls 64 12 t107 _ A5.out).mono ?_); rintro e w' ⟨rfl, ⟨nd, rfl⟩⟩) | (go_at_call 18; (with_reducible refine (class_Large.calls k 32 17 false _ A7.out).mono ?_); rintro e w' ⟨rfl, ⟨nd, rfl⟩⟩))
          go_ret
          exact ⟨by first | rfl | (simp [errW_none, errW_some] <;> rfl) | (simp [*, errW_none, errW_some] <;> rfl), by repeat (first | (with_reducible first | exact HB.out | apply below_alloc | apply pw_below_drewN | apply below_drew1) | exact HB.out)⟩
      · rw [if_neg c6] at H
        have c6b0 : (t107 == 5) = false := beq_eq_false_iff_ne.mpr c6
        have c6b1 : (t107 != 5) = true := bne_iff_ne.mpr c6
        obtain rfl := Option.some.inj H
        go_enter Try.func12, Try.ntmps12
        go_wp2_with (first | ((with_reducible refine gate_callee (f := 13) rfl ?_); refine goesL_ (some 1) rfl rfl Try.func13 (by kernel_rfl) rfl #[.int .i64 5] rfl (by (try simp only [List.map_toArray, List.map_cons, List.map_nil]); first | done | rfl | (simp only [List.length_drop, List.length_take]; rfl)) ?_; (with_reducible refine (class_Round.calls k 5 t105 _ A1.out).mono ?_); rintro e w' ⟨rfl, ⟨nd, rfl⟩⟩; refine ⟨_, rfl, ?_⟩) | (go_at_call 13; (with_reducible refine (class_Round.calls k 13 t106 _ A3.out).mono ?_); rintro e w' ⟨rfl, ⟨nd, rfl⟩⟩) | (go_at_call 15; (with_reducible refine (class_Cells.calls 64 12 t107 _ A5.out).mono ?_); rintro e w' ⟨rfl, ⟨nd, rfl⟩⟩))
        go_ret
        exact ⟨by first | rfl | (simp [errW_none, errW_some] <;> rfl) | (simp [*, errW_none, errW_some] <;> rfl), by repeat (first | (with_reducible first | exact HB.out | apply below_alloc | apply pw_below_drewN | apply below_drew1) | exact HB.out)⟩
    · rw [if_neg c4] at H
      have c4b0 : (t106 == 16) = false := beq_eq_false_iff_ne.mpr c4
      have c4b1 : (t106 != 16) = true := bne_iff_ne.mpr c4
      obtain rfl := Option.some.inj H
      go_enter Try.func12, Try.ntmps12
      go_wp2_with (first | ((with_reducible refine gate_callee (f := 13) rfl ?_); refine goesL_ (some 1) rfl rfl Try.func13 (by kernel_rfl) rfl #[.int .i64 5] rfl (by (try simp only [List.map_toArray, List.map_cons, List.map_nil]); first | done | rfl | (simp only [List.length_drop, List.length_take]; rfl)) ?_; (with_reducible refine (class_Round.calls k 5 t105 _ A1.out).mono ?_); rintro e w' ⟨rfl, ⟨nd, rfl⟩⟩; refine ⟨_, rfl, ?_⟩) | (go_at_call 13; (with_reducible refine (class_Round.calls k 13 t106 _ A3.out).mono ?_); rintro e w' ⟨rfl, ⟨nd, rfl⟩⟩))
      go_ret
      exact ⟨by first | rfl | (simp [errW_none, errW_some] <;> rfl) | (simp [*, errW_none, errW_some] <;> rfl), by repeat (first | (with_reducible first | exact HB.out | apply below_alloc | apply pw_below_drewN | apply below_drew1) | exact HB.out)⟩
  · rw [if_neg c2] at H
    have c2b0 : (t105 == 6) = false := beq_eq_false_iff_ne.mpr c2
    have c2b1 : (t105 != 6) = true := bne_iff_ne.mpr c2
    obtain rfl := Option.some.inj H
    go_enter Try.func12, Try.ntmps12
    go_wp2_with (first | ((with_reducible refine gate_callee (f := 13) rfl ?_); refine goesL_ (some 1) rfl rfl Try.func13 (by kernel_rfl) rfl #[.int .i64 5] rfl (by (try simp only [List.map_toArray, List.map_cons, List.map_nil]); first | done | rfl | (simp only [List.length_drop, List.length_take]; rfl)) ?_; (with_reducible refine (class_Round.calls k 5 t105 _ A1.out).mono ?_); rintro e w' ⟨rfl, ⟨nd, rfl⟩⟩; refine ⟨_, rfl, ?_⟩))
    go_ret
    exact ⟨by first | rfl | (simp [errW_none, errW_some] <;> rfl) | (simp [*, errW_none, errW_some] <;> rfl), by repeat (first | (with_reducible first | exact HB.out | apply below_alloc | apply pw_below_drewN | apply below_drew1) | exact HB.out)⟩

/-! ### tilthlaw04_ClassFits: function 8 -/
def tilthlaw04_ClassFits.j0 : Nat → Int → Int → Int → Bool → Option (Bool)
  | 0, _, _, _, _ => none
  | k + 1, x5, x6, x8, x34 => if x34 = true then (some false) else ((class_Pages.f x5 x6).bind fun t115 => ((tilthlaw04_awake.f k).bind fun t116 => (if t116 = true then (if (wrap64 (t115 * x5)) ≥ x6 then (if (wrap64 ((wrap64 (t115 - 1)) * x5)) < x6 then ((class_Cell.f k x5 x6).bind fun t117 => (if t117 ≥ x6 then ((class_Large.f k x5 x6).bind fun t118 => (if t118 = true then (some true) else (some (decide (x8 ≥ 2))))) else (some false))) else (some false)) else (some false)) else (some false))))
def tilthlaw04_ClassFits.f (k : Nat) (a0 : Int) (a1 : Int) : Option (Bool) := (class_Round.f k (wrap64 ((wrap64 (a1)) + 1))).bind fun t113 => ((class_Cells.f (wrap64 ((wrap64 (Int.tmod a0 1000)) + 1)) t113).bind fun t114 => (if (wrap64 (t114 * t113)) > (wrap64 ((wrap64 (Int.tmod a0 1000)) + 1)) then (tilthlaw04_ClassFits.j0 k (wrap64 ((wrap64 (Int.tmod a0 1000)) + 1)) (wrap64 ((wrap64 (a1)) + 1)) t114 true) else (tilthlaw04_ClassFits.j0 k (wrap64 ((wrap64 (Int.tmod a0 1000)) + 1)) (wrap64 ((wrap64 (a1)) + 1)) t114 (decide ((wrap64 ((wrap64 (t114 + 1)) * t113)) ≤ (wrap64 ((wrap64 (Int.tmod a0 1000)) + 1)))))))
theorem tilthlaw04_ClassFits.mono_l : ∀ k, (∀ y0 y1 y2 y3, LeO (tilthlaw04_ClassFits.j0 k y0 y1 y2 y3) (tilthlaw04_ClassFits.j0 (k + 1) y0 y1 y2 y3))
  | 0 => fun _ _ _ _ r h => by simp [tilthlaw04_ClassFits.j0] at h
  | k + 1 => by
    have ih0 := tilthlaw04_ClassFits.mono_l k
    · intro y0 y1 y2 y3
      unfold tilthlaw04_ClassFits.j0
      repeat' first
      | (with_reducible exact ih0 _ _ _ _)
      | (with_reducible exact class_Cell.mono _ _ _)
      | (with_reducible exact class_Large.mono _ _ _)
      | (with_reducible exact class_Round.mono _ _)
      | (with_reducible exact tilthlaw04_awake.mono _)
      | (with_reducible exact LeO.refl _)
      | (with_reducible exact LeO.none _)
      | (with_reducible refine LeO.ite ?_ ?_)
      | (with_reducible refine LeO.bind ?_ (fun _ => ?_))
      | exact ih0 _ _ _ _
      | exact class_Cell.mono _ _ _
      | exact class_Large.mono _ _ _
      | exact class_Round.mono _ _
      | exact tilthlaw04_awake.mono _
      | exact LeO.none _
      | refine LeO.ite ?_ ?_
      | refine LeO.bind ?_ (fun _ => ?_)
theorem tilthlaw04_ClassFits.mono : ∀ a0 a1 k, LeO (tilthlaw04_ClassFits.f k a0 a1) (tilthlaw04_ClassFits.f (k + 1) a0 a1) := by
  intro a0 a1 k
  have ih0 := tilthlaw04_ClassFits.mono_l k
  unfold tilthlaw04_ClassFits.f
  repeat' first
      | (with_reducible exact ih0 _ _ _ _)
      | (with_reducible exact class_Cell.mono _ _ _)
      | (with_reducible exact class_Large.mono _ _ _)
      | (with_reducible exact class_Round.mono _ _)
      | (with_reducible exact tilthlaw04_awake.mono _)
      | (with_reducible exact LeO.refl _)
      | (with_reducible exact LeO.none _)
      | (with_reducible refine LeO.ite ?_ ?_)
      | (with_reducible refine LeO.bind ?_ (fun _ => ?_))
      | exact ih0 _ _ _ _
      | exact class_Cell.mono _ _ _
      | exact class_Large.mono _ _ _
      | exact class_Round.mono _ _
      | exact tilthlaw04_awake.mono _
      | exact LeO.none _
      | refine LeO.ite ?_ ?_
      | refine LeO.bind ?_ (fun _ => ?_)
set_option maxHeartbeats 8000000 in
set_option maxRecDepth 100000 in
theorem tilthlaw04_ClassFits.calls (k : Nat) (a0 : Int) (a1 : Int) (r : Bool) (w : World) (h : tilthlaw04_ClassFits.f k a0 a1 = some r) :
    Calls Try.prog 8 #[.int .u16 a0, .int .u16 a1] w fun e w' => e = .returned (.bool r) ∧ Below w.heap.size w w' := by
  have HB := Aside0.mk (Below.refl w.heap.size w)
  have H : ((class_Round.f k (wrap64 ((wrap64 (a1)) + 1))).bind fun t113 => ((class_Cells.f (wrap64 ((wrap64 (Int.tmod a0 1000)) + 1)) t113).bind fun t114 => (if (wrap64 (t114 * t113)) > (wrap64 ((wrap64 (Int.tmod a0 1000)) + 1)) then (tilthlaw04_ClassFits.j0 k (wrap64 ((wrap64 (Int.tmod a0 1000)) + 1)) (wrap64 ((wrap64 (a1)) + 1)) t114 true) else (tilthlaw04_ClassFits.j0 k (wrap64 ((wrap64 (Int.tmod a0 1000)) + 1)) (wrap64 ((wrap64 (a1)) + 1)) t114 (decide ((wrap64 ((wrap64 (t114 + 1)) * t113)) ≤ (wrap64 ((wrap64 (Int.tmod a0 1000)) + 1)))))))) = some r := h
  clear h
  replace H := Option.bind_eq_some_iff.mp H
  obtain ⟨t113, A30, H⟩ := H
  replace H : ((class_Cells.f (wrap64 ((wrap64 (Int.tmod a0 1000)) + 1)) t113).bind fun t114 => (if (wrap64 (t114 * t113)) > (wrap64 ((wrap64 (Int.tmod a0 1000)) + 1)) then (tilthlaw04_ClassFits.j0 k (wrap64 ((wrap64 (Int.tmod a0 1000)) + 1)) (wrap64 ((wrap64 (a1)) + 1)) t114 true) else (tilthlaw04_ClassFits.j0 k (wrap64 ((wrap64 (Int.tmod a0 1000)) + 1)) (wrap64 ((wrap64 (a1)) + 1)) t114 (decide ((wrap64 ((wrap64 (t114 + 1)) * t113)) ≤ (wrap64 ((wrap64 (Int.tmod a0 1000)) + 1))))))) = some r := H
  have A3 := Aside0.mk A30
  clear A30
  replace H := Option.bind_eq_some_iff.mp H
  obtain ⟨t114, A40, H⟩ := H
  replace H : (if (wrap64 (t114 * t113)) > (wrap64 ((wrap64 (Int.tmod a0 1000)) + 1)) then (tilthlaw04_ClassFits.j0 k (wrap64 ((wrap64 (Int.tmod a0 1000)) + 1)) (wrap64 ((wrap64 (a1)) + 1)) t114 true) else (tilthlaw04_ClassFits.j0 k (wrap64 ((wrap64 (Int.tmod a0 1000)) + 1)) (wrap64 ((wrap64 (a1)) + 1)) t114 (decide ((wrap64 ((wrap64 (t114 + 1)) * t113)) ≤ (wrap64 ((wrap64 (Int.tmod a0 1000)) + 1)))))) = some r := H
  have A4 := Aside0.mk A40
  clear A40
  have HC5 := Aside0.mk H
  clear H
  go_enter Try.func8, Try.ntmps8
  go_upto_region 4 with (first | ((with_reducible refine gate_callee (f := 13) rfl ?_); refine goesL_ (some 18) rfl rfl Try.func13 (by kernel_rfl) rfl #[.int .i64 (wrap64 ((wrap64 (a1)) + 1))] rfl (by (try simp only [List.map_toArray, List.map_cons, List.map_nil]); first | done | rfl | (simp only [List.length_drop, List.length_take]; rfl)) ?_; (with_reducible refine (class_Round.calls k (wrap64 ((wrap64 (a1)) + 1)) t113 _ A3.out).mono ?_); rintro e w' ⟨rfl, ⟨nd, rfl⟩⟩; refine ⟨_, rfl, ?_⟩) | ((with_reducible refine gate_callee (f := 15) rfl ?_); refine goesL_ (some 21) rfl rfl Try.func15 (by kernel_rfl) rfl #[.int .i64 (wrap64 ((wrap64 (Int.tmod a0 1000)) + 1)), .int .i64 t113] rfl (by (try simp only [List.map_toArray, List.map_cons, List.map_nil]); first | done | rfl | (simp only [List.length_drop, List.length_take]; rfl)) ?_; (with_reducible refine (class_Cells.calls (wrap64 ((wrap64 (Int.tmod a0 1000)) + 1)) t113 t114 _ A4.out).mono ?_); rintro e w' ⟨rfl, ⟨nd, rfl⟩⟩; refine ⟨_, rfl, ?_⟩))
  (try simp only [Act.put, List.setIfInBounds_toArray, List.set_cons_zero, List.set_cons_succ])
  go_cut [34] (fun v34 wc => ∃ (kq : Nat) (x34_4 : Bool), v34 = .bool x34_4 ∧ Aside0 (tilthlaw04_ClassFits.j0 kq (wrap64 ((wrap64 (Int.tmod a0 1000)) + 1)) (wrap64 ((wrap64 (a1)) + 1)) t114 x34_4 = some r) ∧ Aside0 (kq ≤ k) ∧ Aside0 (Below w.heap.size w wc))
  case first =>
    have H := HC5.out
    clear HC5
    by_cases c6 : (wrap64 (t114 * t113)) > (wrap64 ((wrap64 (Int.tmod a0 1000)) + 1))
    · rw [if_pos c6] at H
      have c6b0 : decide ((wrap64 ((wrap64 (Int.tmod a0 1000)) + 1)) < (wrap64 (t114 * t113))) = true := decide_eq_true c6
      clear c6
      (first | rw [c6b0] | (simp only [i64_w, i32_w]; rw [c6b0]) | skip)
      have H' := Aside0.mk H
      clear H
      go_wp2
      go_meet
      case rel => exact ⟨_, (true), (by first | rfl | (simp; done) | (simp [*]; done)), H', ⟨by first | omega | exact Nat.le_refl _⟩, ⟨by repeat (first | (with_reducible first | exact HB.out | apply below_alloc | apply pw_below_drewN | apply below_drew1) | exact HB.out)⟩⟩
    · rw [if_neg c6] at H
      have c6b0 : decide ((wrap64 ((wrap64 (Int.tmod a0 1000)) + 1)) < (wrap64 (t114 * t113))) = false := decide_eq_false c6
      clear c6
      (first | rw [c6b0] | (simp only [i64_w, i32_w]; rw [c6b0]) | skip)
      have H' := Aside0.mk H
      clear H
      go_wp2
      go_meet
      case rel => exact ⟨_, (decide ((wrap64 ((wrap64 (t114 + 1)) * t113)) ≤ (wrap64 ((wrap64 (Int.tmod a0 1000)) + 1)))), (by first | rfl | (simp; done) | (simp [*]; done)), H', ⟨by first | omega | exact Nat.le_refl _⟩, ⟨by repeat (first | (with_reducible first | exact HB.out | apply below_alloc | apply pw_below_drewN | apply below_drew1) | exact HB.out)⟩⟩
  case rest =>
    clear HC5
    try clear c1
    try clear p2
    try clear c6
    try clear c6b0
    try clear p6
    obtain ⟨kq, x34_4, rfl, HA, HJ4, HB⟩ := hcut
    cases kq with
    | zero => exact absurd HA.out (by simp [tilthlaw04_ClassFits.j0])
    | succ kj4 =>
      have H := HA.out
      clear HA
      simp only [tilthlaw04_ClassFits.j0] at H
      by_cases c7 : x34_4 = true
      · subst c7
        have H1 : (some false) = some r := by rw [if_pos rfl] at H; exact H
        clear H
        have H := H1
        clear H1
        obtain rfl := Option.some.inj H
        go_wp2
        go_ret
        exact ⟨by first | rfl | (simp [errW_none, errW_some] <;> rfl) | (simp [*, errW_none, errW_some] <;> rfl), by repeat (first | (with_reducible first | exact HB.out | apply below_alloc | apply pw_below_drewN | apply below_drew1) | exact HB.out)⟩
      · replace c7 := Bool.eq_false_iff.mpr c7
        subst c7
        have H1 : ((class_Pages.f (wrap64 ((wrap64 (Int.tmod a0 1000)) + 1)) (wrap64 ((wrap64 (a1)) + 1))).bind fun t115 => ((tilthlaw04_awake.f kj4).bind fun t116 => (if t116 = true then (if (wrap64 (t115 * (wrap64 ((wrap64 (Int.tmod a0 1000)) + 1)))) ≥ (wrap64 ((wrap64 (a1)) + 1)) then (if (wrap64 ((wrap64 (t115 - 1)) * (wrap64 ((wrap64 (Int.tmod a0 1000)) + 1)))) < (wrap64 ((wrap64 (a1)) + 1)) then ((class_Cell.f kj4 (wrap64 ((wrap64 (Int.tmod a0 1000)) + 1)) (wrap64 ((wrap64 (a1)) + 1))).bind fun t117 => (if t117 ≥ (wrap64 ((wrap64 (a1)) + 1)) then ((class_Large.f kj4 (wrap64 ((wrap64 (Int.tmod a0 1000)) + 1)) (wrap64 ((wrap64 (a1)) + 1))).bind fun t118 => (if t118 = true then (some true) else (some (decide (t114 ≥ 2))))) else (some false))) else (some false)) else (some false)) else (some false)))) = some r := by rw [if_neg (show ¬ (false = true) by decide)] at H; exact H
        clear H
        have H := H1
        clear H1
        replace H := Option.bind_eq_some_iff.mp H
        obtain ⟨t115, A80, H⟩ := H
        replace H : ((tilthlaw04_awake.f kj4).bind fun t116 => (if t116 = true then (if (wrap64 (t115 * (wrap64 ((wrap64 (Int.tmod a0 1000)) + 1)))) ≥ (wrap64 ((wrap64 (a1)) + 1)) then (if (wrap64 ((wrap64 (t115 - 1)) * (wrap64 ((wrap64 (Int.tmod a0 1000)) + 1)))) < (wrap64 ((wrap64 (a1)) + 1)) then ((class_Cell.f kj4 (wrap64 ((wrap64 (Int.tmod a0 1000)) + 1)) (wrap64 ((wrap64 (a1)) + 1))).bind fun t117 => (if t117 ≥ (wrap64 ((wrap64 (a1)) + 1)) then ((class_Large.f kj4 (wrap64 ((wrap64 (Int.tmod a0 1000)) + 1)) (wrap64 ((wrap64 (a1)) + 1))).bind fun t118 => (if t118 = true then (some true) else (some (decide (t114 ≥ 2))))) else (some false))) else (some false)) else (some false)) else (some false))) = some r := H
        have A8 := Aside0.mk A80
        clear A80
        replace H := Option.bind_eq_some_iff.mp H
        obtain ⟨t116, A90, H⟩ := H
        replace H : (if t116 = true then (if (wrap64 (t115 * (wrap64 ((wrap64 (Int.tmod a0 1000)) + 1)))) ≥ (wrap64 ((wrap64 (a1)) + 1)) then (if (wrap64 ((wrap64 (t115 - 1)) * (wrap64 ((wrap64 (Int.tmod a0 1000)) + 1)))) < (wrap64 ((wrap64 (a1)) + 1)) then ((class_Cell.f kj4 (wrap64 ((wrap64 (Int.tmod a0 1000)) + 1)) (wrap64 ((wrap64 (a1)) + 1))).bind fun t117 => (if t117 ≥ (wrap64 ((wrap64 (a1)) + 1)) then ((class_Large.f kj4 (wrap64 ((wrap64 (Int.tmod a0 1000)) + 1)) (wrap64 ((wrap64 (a1)) + 1))).bind fun t118 => (if t118 = true then (some true) else (some (decide (t114 ≥ 2))))) else (some false))) else (some false)) else (some false)) else (some false)) = some r := H
        have A9 := Aside0.mk A90
        clear A90
        by_cases c10 : t116 = true
        · subst c10
          have H1 : (if (wrap64 (t115 * (wrap64 ((wrap64 (Int.tmod a0 1000)) + 1)))) ≥ (wrap64 ((wrap64 (a1)) + 1)) then (if (wrap64 ((wrap64 (t115 - 1)) * (wrap64 ((wrap64 (Int.tmod a0 1000)) + 1)))) < (wrap64 ((wrap64 (a1)) + 1)) then ((class_Cell.f kj4 (wrap64 ((wrap64 (Int.tmod a0 1000)) + 1)) (wrap64 ((wrap64 (a1)) + 1))).bind fun t117 => (if t117 ≥ (wrap64 ((wrap64 (a1)) + 1)) then ((class_Large.f kj4 (wrap64 ((wrap64 (Int.tmod a0 1000)) + 1)) (wrap64 ((wrap64 (a1)) + 1))).bind fun t118 => (if t118 = true then (some true) else (some (decide (t114 ≥ 2))))) else (some false))) else (some false)) else (some false)) = some r := by rw [if_pos rfl] at H; exact H
          clear H
          have H := H1
          clear H1
          by_cases c11 : (wrap64 (t115 * (wrap64 ((wrap64 (Int.tmod a0 1000)) + 1)))) ≥ (wrap64 ((wrap64 (a1)) + 1))
          · rw [if_pos c11] at H
            have c11b0 : decide ((wrap64 ((wrap64 (a1)) + 1)) ≤ (wrap64 (t115 * (wrap64 ((wrap64 (Int.tmod a0 1000)) + 1))))) = true := decide_eq_true c11
            clear c11
            by_cases c12 : (wrap64 ((wrap64 (t115 - 1)) * (wrap64 ((wrap64 (Int.tmod a0 1000)) + 1)))) < (wrap64 ((wrap64 (a1)) + 1))
            · rw [if_pos c12] at H
              have c12b0 : decide ((wrap64 ((wrap64 (t115 - 1)) * (wrap64 ((wrap64 (Int.tmod a0 1000)) + 1)))) < (wrap64 ((wrap64 (a1)) + 1))) = true := decide_eq_true c12
              clear c12
              replace H := Option.bind_eq_some_iff.mp H
              obtain ⟨t117, A130, H⟩ := H
              replace H : (if t117 ≥ (wrap64 ((wrap64 (a1)) + 1)) then ((class_Large.f kj4 (wrap64 ((wrap64 (Int.tmod a0 1000)) + 1)) (wrap64 ((wrap64 (a1)) + 1))).bind fun t118 => (if t118 = true then (some true) else (some (decide (t114 ≥ 2))))) else (some false)) = some r := H
              have A13 := Aside0.mk A130
              clear A130
              by_cases c14 : t117 ≥ (wrap64 ((wrap64 (a1)) + 1))
              · rw [if_pos c14] at H
                have c14b0 : decide ((wrap64 ((wrap64 (a1)) + 1)) ≤ t117) = true := decide_eq_true c14
                clear c14
                replace H := Option.bind_eq_some_iff.mp H
                obtain ⟨t118, A150, H⟩ := H
                replace H : (if t118 = true then (some true) else (some (decide (t114 ≥ 2)))) = some r := H
                have A15 := Aside0.mk A150
                clear A150
                by_cases c16 : t118 = true
                · subst c16
                  have H1 : (some true) = some r := by rw [if_pos rfl] at H; exact H
                  clear H
                  have H := H1
                  clear H1
                  obtain rfl := Option.some.inj H
                  go_wp2_with (first | ((with_reducible refine gate_callee (f := 16) rfl ?_); refine goesL_ (some 37) rfl rfl Try.func16 (by kernel_rfl) rfl #[.int .i64 (wrap64 ((wrap64 (Int.tmod a0 1000)) + 1)), .int .i64 (wrap64 ((wrap64 (a1)) + 1))] rfl (by (try simp only [List.map_toArray, List.map_cons, List.map_nil]); first | done | rfl | (simp only [List.length_drop, List.length_take]; rfl)) ?_; (with_reducible refine (class_Pages.calls (wrap64 ((wrap64 (Int.tmod a0 1000)) + 1)) (wrap64 ((wrap64 (a1)) + 1)) t115 _ A8.out).mono ?_); rintro e w17 ⟨rfl, hb⟩; refine ⟨_, rfl, ?_⟩; have n0_ := Aside0.mk (below_step (by repeat (first | (with_reducible first | exact HB.out | apply below_alloc | apply pw_below_drewN | apply below_drew1) | exact HB.out)) hb); clear HB; have HB := n0_; clear n0_; (try clear hb); (try clear hb2); (try clear hk); (try clear hi)) | ((with_reducible refine gate_callee (f := 12) rfl ?_); refine goesL_ (some 38) rfl rfl Try.func12 (by kernel_rfl) rfl #[] rfl (by (try simp only [List.map_toArray, List.map_cons, List.map_nil]); first | done | rfl | (simp only [List.length_drop, List.length_take]; rfl)) ?_; (with_reducible refine (tilthlaw04_awake.calls kj4  true _ A9.out).mono ?_); rintro e w18 ⟨rfl, hb⟩; refine ⟨_, rfl, ?_⟩; have n0_ := Aside0.mk (below_step (by repeat (first | (with_reducible first | exact HB.out | apply below_alloc | apply pw_below_drewN | apply below_drew1) | exact HB.out)) hb); clear HB; have HB := n0_; clear n0_; (try clear hb); (try clear hb2); (try clear hk); (try clear hi)) | (go_at_call 19; (with_reducible refine (class_Cell.calls kj4 (wrap64 ((wrap64 (Int.tmod a0 1000)) + 1)) (wrap64 ((wrap64 (a1)) + 1)) t117 _ A13.out).mono ?_); rintro e w19 ⟨rfl, hb⟩; have n0_ := Aside0.mk (below_step (by repeat (first | (with_reducible first | exact HB.out | apply below_alloc | apply pw_below_drewN | apply below_drew1) | exact HB.out)) hb); clear HB; have HB := n0_; clear n0_; (try clear hb); (try clear hb2); (try clear hk); (try clear hi)) | (go_at_call 18; (with_reducible refine (class_Large.calls kj4 (wrap64 ((wrap64 (Int.tmod a0 1000)) + 1)) (wrap64 ((wrap64 (a1)) + 1)) true _ A15.out).mono ?_); rintro e w' ⟨rfl, ⟨nd, rfl⟩⟩))
                  go_ret
                  exact ⟨by first | rfl | (simp [errW_none, errW_some] <;> rfl) | (simp [*, errW_none, errW_some] <;> rfl), by repeat (first | (with_reducible first | exact HB.out | apply below_alloc | apply pw_below_drewN | apply below_drew1) | exact HB.out)⟩
                · replace c16 := Bool.eq_false_iff.mpr c16
                  subst c16
                  have H1 : (some (decide (t114 ≥ 2))) = some r := by rw [if_neg (show ¬ (false = true) by decide)] at H; exact H
                  clear H
                  have H := H1
                  clear H1
                  obtain rfl := Option.some.inj H
                  go_wp2_with (first | ((with_reducible refine gate_callee (f := 16) rfl ?_); refine goesL_ (some 37) rfl rfl Try.func16 (by kernel_rfl) rfl #[.int .i64 (wrap64 ((wrap64 (Int.tmod a0 1000)) + 1)), .int .i64 (wrap64 ((wrap64 (a1)) + 1))] rfl (by (try simp only [List.map_toArray, List.map_cons, List.map_nil]); first | done | rfl | (simp only [List.length_drop, List.length_take]; rfl)) ?_; (with_reducible refine (class_Pages.calls (wrap64 ((wrap64 (Int.tmod a0 1000)) + 1)) (wrap64 ((wrap64 (a1)) + 1)) t115 _ A8.out).mono ?_); rintro e w20 ⟨rfl, hb⟩; refine ⟨_, rfl, ?_⟩; have n0_ := Aside0.mk (below_step (by repeat (first | (with_reducible first | exact HB.out | apply below_alloc | apply pw_below_drewN | apply below_drew1) | exact HB.out)) hb); clear HB; have HB := n0_; clear n0_; (try clear hb); (try clear hb2); (try clear hk); (try clear hi)) | ((with_reducible refine gate_callee (f := 12) rfl ?_); refine goesL_ (some 38) rfl rfl Try.func12 (by kernel_rfl) rfl #[] rfl (by (try simp only [List.map_toArray, List.map_cons, List.map_nil]); first | done | rfl | (simp only [List.length_drop, List.length_take]; rfl)) ?_; (with_reducible refine (tilthlaw04_awake.calls kj4  true _ A9.out).mono ?_); rintro e w21 ⟨rfl, hb⟩; refine ⟨_, rfl, ?_⟩; have n0_ := Aside0.mk (below_step (by repeat (first | (with_reducible first | exact HB.out | apply below_alloc | apply pw_below_drewN | apply below_drew1) | exact HB.out)) hb); clear HB; have HB := n0_; clear n0_; (try clear hb); (try clear hb2); (try clear hk); (try clear hi)) | (go_at_call 19; (with_reducible refine (class_Cell.calls kj4 (wrap64 ((wrap64 (Int.tmod a0 1000)) + 1)) (wrap64 ((wrap64 (a1)) + 1)) t117 _ A13.out).mono ?_); rintro e w22 ⟨rfl, hb⟩; have n0_ := Aside0.mk (below_step (by repeat (first | (with_reducible first | exact HB.out | apply below_alloc | apply pw_below_drewN | apply below_drew1) | exact HB.out)) hb); clear HB; have HB := n0_; clear n0_; (try clear hb); (try clear hb2); (try clear hk); (try clear hi)) | (go_at_call 18; (with_reducible refine (class_Large.calls kj4 (wrap64 ((wrap64 (Int.tmod a0 1000)) + 1)) (wrap64 ((wrap64 (a1)) + 1)) false _ A15.out).mono ?_); rintro e w' ⟨rfl, ⟨nd, rfl⟩⟩))
                  go_ret
                  exact ⟨by first | rfl | (simp [errW_none, errW_some] <;> rfl) | (simp [*, errW_none, errW_some] <;> rfl), by repeat (first | (with_reducible first | exact HB.out | apply below_alloc | apply pw_below_drewN | apply below_drew1) | exact HB.out)⟩
              · rw [if_neg c14] at H
                have c14b0 : decide ((wrap64 ((wrap64 (a1)) + 1)) ≤ t117) = false := decide_eq_false c14
                clear c14
                obtain rfl := Option.some.inj H
                go_wp2_with (first | ((with_reducible refine gate_callee (f := 16) rfl ?_); refine goesL_ (some 37) rfl rfl Try.func16 (by kernel_rfl) rfl #[.int .i64 (wrap64 ((wrap64 (Int.tmod a0 1000)) + 1)), .int .i64 (wrap64 ((wrap64 (a1)) + 1))] rfl (by (try simp only [List.map_toArray, List.map_cons, List.map_nil]); first | done | rfl | (simp only [List.length_drop, List.length_take]; rfl)) ?_; (with_reducible refine (class_Pages.calls (wrap64 ((wrap64 (Int.tmod a0 1000)) + 1)) (wrap64 ((wrap64 (a1)) + 1)) t115 _ A8.out).mono ?_); rintro e w23 ⟨rfl, hb⟩; refine ⟨_, rfl, ?_⟩; have n0_ := Aside0.mk (below_step (by repeat (first | (with_reducible first | exact HB.out | apply below_alloc | apply pw_below_drewN | apply below_drew1) | exact HB.out)) hb); clear HB; have HB := n0_; clear n0_; (try clear hb); (try clear hb2); (try clear hk); (try clear hi)) | ((with_reducible refine gate_callee (f := 12) rfl ?_); refine goesL_ (some 38) rfl rfl Try.func12 (by kernel_rfl) rfl #[] rfl (by (try simp only [List.map_toArray, List.map_cons, List.map_nil]); first | done | rfl | (simp only [List.length_drop, List.length_take]; rfl)) ?_; (with_reducible refine (tilthlaw04_awake.calls kj4  true _ A9.out).mono ?_); rintro e w24 ⟨rfl, hb⟩; refine ⟨_, rfl, ?_⟩; have n0_ := Aside0.mk (below_step (by repeat (first | (with_reducible first | exact HB.out | apply below_alloc | apply pw_below_drewN | apply below_drew1) | exact HB.out)) hb); clear HB; have HB := n0_; clear n0_; (try clear hb); (try clear hb2); (try clear hk); (try clear hi)) | (go_at_call 19; (with_reducible refine (class_Cell.calls kj4 (wrap64 ((wrap64 (Int.tmod a0 1000)) + 1)) (wrap64 ((wrap64 (a1)) + 1)) t117 _ A13.out).mono ?_); rintro e w25 ⟨rfl, hb⟩; have n0_ := Aside0.mk (below_step (by repeat (first | (with_reducible first | exact HB.out | apply below_alloc | apply pw_below_drewN | apply below_drew1) | exact HB.out)) hb); clear HB; have HB := n0_; clear n0_; (try clear hb); (try clear hb2); (try clear hk); (try clear hi)))
                go_ret
                exact ⟨by first | rfl | (simp [errW_none, errW_some] <;> rfl) | (simp [*, errW_none, errW_some] <;> rfl), by repeat (first | (with_reducible first | exact HB.out | apply below_alloc | apply pw_below_drewN | apply below_drew1) | exact HB.out)⟩
            · rw [if_neg c12] at H
              have c12b0 : decide ((wrap64 ((wrap64 (t115 - 1)) * (wrap64 ((wrap64 (Int.tmod a0 1000)) + 1)))) < (wrap64 ((wrap64 (a1)) + 1))) = false := decide_eq_false c12
              clear c12
              obtain rfl := Option.some.inj H
              go_wp2_with (first | ((with_reducible refine gate_callee (f := 16) rfl ?_); refine goesL_ (some 37) rfl rfl Try.func16 (by kernel_rfl) rfl #[.int .i64 (wrap64 ((wrap64 (Int.tmod a0 1000)) + 1)), .int .i64 (wrap64 ((wrap64 (a1)) + 1))] rfl (by (try simp only [List.map_toArray, List.map_cons, List.map_nil]); first | done | rfl | (simp only [List.length_drop, List.length_take]; rfl)) ?_; (with_reducible refine (class_Pages.calls (wrap64 ((wrap64 (Int.tmod a0 1000)) + 1)) (wrap64 ((wrap64 (a1)) + 1)) t115 _ A8.out).mono ?_); rintro e w26 ⟨rfl, hb⟩; refine ⟨_, rfl, ?_⟩; have n0_ := Aside0.mk (below_step (by repeat (first | (with_reducible first | exact HB.out | apply below_alloc | apply pw_below_drewN | apply below_drew1) | exact HB.out)) hb); clear HB; have HB := n0_; clear n0_; (try clear hb); (try clear hb2); (try clear hk); (try clear hi)) | ((with_reducible refine gate_callee (f := 12) rfl ?_); refine goesL_ (some 38) rfl rfl Try.func12 (by kernel_rfl) rfl #[] rfl (by (try simp only [List.map_toArray, List.map_cons, List.map_nil]); first | done | rfl | (simp only [List.length_drop, List.length_take]; rfl)) ?_; (with_reducible refine (tilthlaw04_awake.calls kj4  true _ A9.out).mono ?_); rintro e w27 ⟨rfl, hb⟩; refine ⟨_, rfl, ?_⟩; have n0_ := Aside0.mk (below_step (by repeat (first | (with_reducible first | exact HB.out | apply below_alloc | apply pw_below_drewN | apply below_drew1) | exact HB.out)) hb); clear HB; have HB := n0_; clear n0_; (try clear hb); (try clear hb2); (try clear hk); (try clear hi)))
              go_ret
              exact ⟨by first | rfl | (simp [errW_none, errW_some] <;> rfl) | (simp [*, errW_none, errW_some] <;> rfl), by repeat (first | (with_reducible first | exact HB.out | apply below_alloc | apply pw_below_drewN | apply below_drew1) | exact HB.out)⟩
          · rw [if_neg c11] at H
            have c11b0 : decide ((wrap64 ((wrap64 (a1)) + 1)) ≤ (wrap64 (t115 * (wrap64 ((wrap64 (Int.tmod a0 1000)) + 1))))) = false := decide_eq_false c11
            clear c11
            obtain rfl := Option.some.inj H
            go_wp2_with (first | ((with_reducible refine gate_callee (f := 16) rfl ?_); refine goesL_ (some 37) rfl rfl Try.func16 (by kernel_rfl) rfl #[.int .i64 (wrap64 ((wrap64 (Int.tmod a0 1000)) + 1)), .int .i64 (wrap64 ((wrap64 (a1)) + 1))] rfl (by (try simp only [List.map_toArray, List.map_cons, List.map_nil]); first | done | rfl | (simp only [List.length_drop, List.length_take]; rfl)) ?_; (with_reducible refine (class_Pages.calls (wrap64 ((wrap64 (Int.tmod a0 1000)) + 1)) (wrap64 ((wrap64 (a1)) + 1)) t115 _ A8.out).mono ?_); rintro e w28 ⟨rfl, hb⟩; refine ⟨_, rfl, ?_⟩; have n0_ := Aside0.mk (below_step (by repeat (first | (with_reducible first | exact HB.out | apply below_alloc | apply pw_below_drewN | apply below_drew1) | exact HB.out)) hb); clear HB; have HB := n0_; clear n0_; (try clear hb); (try clear hb2); (try clear hk); (try clear hi)) | ((with_reducible refine gate_callee (f := 12) rfl ?_); refine goesL_ (some 38) rfl rfl Try.func12 (by kernel_rfl) rfl #[] rfl (by (try simp only [List.map_toArray, List.map_cons, List.map_nil]); first | done | rfl | (simp only [List.length_drop, List.length_take]; rfl)) ?_; (with_reducible refine (tilthlaw04_awake.calls kj4  true _ A9.out).mono ?_); rintro e w29 ⟨rfl, hb⟩; refine ⟨_, rfl, ?_⟩; have n0_ := Aside0.mk (below_step (by repeat (first | (with_reducible first | exact HB.out | apply below_alloc | apply pw_below_drewN | apply below_drew1) | exact HB.out)) hb); clear HB; have HB := n0_; clear n0_; (try clear hb); (try clear hb2); (try clear hk); (try clear hi)))
            go_ret
            exact ⟨by first | rfl | (simp [errW_none, errW_some] <;> rfl) | (simp [*, errW_none, errW_some] <;> rfl), by repeat (first | (with_reducible first | exact HB.out | apply below_alloc | apply pw_below_drewN | apply below_drew1) | exact HB.out)⟩
        · replace c10 := Bool.eq_false_iff.mpr c10
          subst c10
          have H1 : (some false) = some r := by rw [if_neg (show ¬ (false = true) by decide)] at H; exact H
          clear H
          have H := H1
          clear H1
          obtain rfl := Option.some.inj H
          go_wp2_with (first | ((with_reducible refine gate_callee (f := 16) rfl ?_); refine goesL_ (some 37) rfl rfl Try.func16 (by kernel_rfl) rfl #[.int .i64 (wrap64 ((wrap64 (Int.tmod a0 1000)) + 1)), .int .i64 (wrap64 ((wrap64 (a1)) + 1))] rfl (by (try simp only [List.map_toArray, List.map_cons, List.map_nil]); first | done | rfl | (simp only [List.length_drop, List.length_take]; rfl)) ?_; (with_reducible refine (class_Pages.calls (wrap64 ((wrap64 (Int.tmod a0 1000)) + 1)) (wrap64 ((wrap64 (a1)) + 1)) t115 _ A8.out).mono ?_); rintro e w30 ⟨rfl, hb⟩; refine ⟨_, rfl, ?_⟩; have n0_ := Aside0.mk (below_step (by repeat (first | (with_reducible first | exact HB.out | apply below_alloc | apply pw_below_drewN | apply below_drew1) | exact HB.out)) hb); clear HB; have HB := n0_; clear n0_; (try clear hb); (try clear hb2); (try clear hk); (try clear hi)) | ((with_reducible refine gate_callee (f := 12) rfl ?_); refine goesL_ (some 38) rfl rfl Try.func12 (by kernel_rfl) rfl #[] rfl (by (try simp only [List.map_toArray, List.map_cons, List.map_nil]); first | done | rfl | (simp only [List.length_drop, List.length_take]; rfl)) ?_; (with_reducible refine (tilthlaw04_awake.calls kj4  false _ A9.out).mono ?_); rintro e w31 ⟨rfl, hb⟩; refine ⟨_, rfl, ?_⟩; have n0_ := Aside0.mk (below_step (by repeat (first | (with_reducible first | exact HB.out | apply below_alloc | apply pw_below_drewN | apply below_drew1) | exact HB.out)) hb); clear HB; have HB := n0_; clear n0_; (try clear hb); (try clear hb2); (try clear hk); (try clear hi)))
          go_ret
          exact ⟨by first | rfl | (simp [errW_none, errW_some] <;> rfl) | (simp [*, errW_none, errW_some] <;> rfl), by repeat (first | (with_reducible first | exact HB.out | apply below_alloc | apply pw_below_drewN | apply below_drew1) | exact HB.out)⟩

/-- THE ONE PURE STATEMENT of tilthlaw04_ClassFits: yours. -/
def tilthlaw04_ClassFits.Pure : Prop := ∀ (a0 : Int) (a1 : Int), (Lit.int .u16 a0).wf = true → (Lit.int .u16 a1).wf = true → ∃ k, tilthlaw04_ClassFits.f k a0 a1 = some true
theorem tilthlaw04_ClassFits.walk (P : tilthlaw04_ClassFits.Pure) (a0 : Int) (a1 : Int) (w : World) (w0 : (Lit.int .u16 a0).wf = true) (w1 : (Lit.int .u16 a1).wf = true) :
    Calls Try.prog 8 #[.int .u16 a0, .int .u16 a1] w fun e w' => e = .returned (.bool true) ∧ Below w.heap.size w w' := by
  obtain ⟨k, h⟩ := P a0 a1 w0 w1
  refine (tilthlaw04_ClassFits.calls k a0 a1 true w h).mono ?_
  rintro e w' ⟨rfl, hd⟩
  exact ⟨rfl, hd⟩

end Go.Proofs.Ythkajdbegdclmaa.PClassFits
