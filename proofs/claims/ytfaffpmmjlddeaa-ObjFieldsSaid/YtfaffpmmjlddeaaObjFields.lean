/- ObjFields as a contract. Condition: numbers are of their kinds. -/
import Derived.Test.YtfaffpmmjlddeaaObjFill
import Derived.Deep.DeepCutAuto
import Derived.Deep.CutBlock
set_option linter.unusedVariables false
set_option linter.unusedSimpArgs false
namespace Go.Proofs.Ytfaffpmmjlddeaa.Ob
open Go.RowKit Go.Proofs.Ytfaffpmmjlddeaa.W Go.Proofs.Ytfaffpmmjlddeaa.Ar Go.Proofs.Ytfaffpmmjlddeaa.Hea

theorem wrap_back {x : Int} (h : w64 x) : IntKind.u64.wrap (wrap64 x) = x := by rw [IntKind.wrap_u64]; unfold wrap64; unfold w64 at h; omega
set_option maxRecDepth 20000 in
set_option maxHeartbeats 32000000 in
theorem Fields_calls (m s a k x : Int) (w : World) (m0 : 0 ≤ m) (m1 : m ≤ 255) (hs : w64 s) (hx : w64 x) :
    Calls Try.prog 9 #[.int .u8 m, .int .u64 s, .int .i64 a, .int .i64 k, .int .u64 x] w fun e w' => e = .returned (.bool true) ∧ Below w.heap.size w w' := by
  obtain ⟨N, hN⟩ : ∃ N : Nat, m % 100 = (N : Int) := ⟨(m % 100).toNat, by omega⟩
  have hN1 : N < 100 := by omega
  have HS := Lib.hid hs
  have HX := Lib.hid hx
  clear hs hx
  rcases (by omega : (a < 0) ∨ (0 ≤ a)) with q0 | q0
  · as_aux_lemma =>
    have d0 : decide (0 ≤ a) = false := by simp; omega
    go_enter Try.func9, Try.ntmps9
    go_wp2_with fail
    refine (filled_at (N : Int) s (Keep.refl (fun _ => False) w) (by omega) (by omega) HS.out).mono ?_
    rintro e w1 ⟨b, G, Hh, v, ws, rfl, hl, h, hS, k1, hG, hH, hwb⟩
    clear k1
    obtain ⟨A, c, rfl, hS1, hS2⟩ := hS
    have hlN : ws.length = N := by omega
    subst hlN
    have hS : SL w1 (fun i => G ≤ i ∧ i < Hh) .u64 (.slice A ws.length c) ws := ⟨A, c, rfl, hS1, hS2⟩
    have hwl : G ≤ w1.heap.size := h.2.2.2
    clear hS2 hl
    have HWB := Lib.hid hwb
    clear hwb
    have hpl : placeOf a k = -1 := by have := q0; simp [placeOf, okAt]; omega
    have hin : inn ws (placeOf a k) = false := by rw [hpl]; exact Go.Proofs.Ytfaffpmmjlddeaa.Ar.within_not (by omega)
    have HIN := Lib.hid hin
    clear hpl hin
    go_wp2_with fail
    refine (Field_at a k h 0 2 (by unfold ldW; rw [HIN.out]; rfl) (by unfold erW; rw [HIN.out]; rfl)).mono ?_
    rintro e w2 ⟨rfl, h2, k2⟩
    replace hH := Nat.le_trans hH k2.size
    replace hS := hS.keep k2 (fun i h1 h2 => by first | omega | (obtain ⟨h3, h4⟩ := h1; obtain ⟨h5, h6⟩ := h2; omega))
    clear h k2
    go_wp2_with fail
    refine (SetField_at a k x h2 HX.out 2 ws (by unfold erW; rw [HIN.out]; rfl) (by unfold stW; rw [HIN.out]; rfl)).mono ?_
    rintro e w3 ⟨rfl, h3, k3⟩
    replace hH := Nat.le_trans hH k3.size
    replace hS := hS.keep k3 (fun i h1 h2 => by first | omega | (obtain ⟨h3, h4⟩ := h1; obtain ⟨h5, h6⟩ := h2; omega))
    clear h2 k3
    obtain ⟨ii, hi, hz, hs1, hby⟩ := info_parts info_u64
    have hE := Blk.new w3 24 (#[] : Array Value)
    have kE := (Keep.refl (fun _ => False) w3).alloc (.cells #[] 24)
    have hL : G ≤ w3.heap.size := h3.2.2.2
    replace h3 := h3.stay kE
    replace hS := hS.alloc (.cells #[] 24)
    go_wp2_with (at_builtin; refine wpList_append_new rfl _ _ 35 rfl 24 ii (.int .u64 0) 8 Try.underlying35 hi hz hs1 hby rfl w3.heap.size hE rfl rfl hS ?c1 ?_)
    case c1 => omega
    intro A' c' w4 hq k4
    have hU : UR w4 w3.heap.size A' c' ws := (hq.bound).mono (fun i h => ⟨by have := h.1; omega, h.2⟩)
    replace h3 := h3.stay k4
    replace hS := hS.keep k4 (fun _ _ h => h)
    clear hq k4 hE kE
    generalize w3.heap.size = L at hU hL hH ⊢
    have hl2 : ws.length = ws.length := rfl
    clear hS
    have hok : okAt a = false := by simp [okAt]; omega
    have HOK := Lib.hid hok
    clear hok
    go_wp2_with fail
    refine (Way_at a h3 0 2 (by rw [HOK.out]; rfl) (by rw [HOK.out]; rfl)).mono ?_
    rintro e w6 ⟨rfl, h6, k⟩
    replace hU := hU.keep k (fun i h1 h2 => by first | omega | (obtain ⟨h3, h4⟩ := h1; obtain ⟨h5, h6⟩ := h2; omega))
    clear k
    clear h3
    go_wp2_with fail
    refine (SetWay_at a 5 h6 2 ws (by rw [HOK.out]; rfl) (by rw [HOK.out]; rfl)).mono ?_
    rintro e w7 ⟨rfl, h7, k⟩
    replace hU := hU.keep k (fun i h1 h2 => by first | omega | (obtain ⟨h3, h4⟩ := h1; obtain ⟨h5, h6⟩ := h2; omega))
    clear k
    clear h6
    have hl3 : ws.length = ws.length := rfl
    go_wp2_with fail
    refine (awake_calls _).mono ?_
    rintro e w10 ⟨rfl, k⟩
    replace h7 := h7.stay k
    replace hU := hU.keep k (fun _ _ h => h)
    clear k
    go_wp2_with fail
    refine (words_at h7 (by omega)).mono ?_
    rintro e w11 ⟨v11, rfl, hv11, h11, k⟩
    replace hU := hU.keep k (fun i h1 h2 => by first | omega | (obtain ⟨h3, h4⟩ := h1; obtain ⟨h5, h6⟩ := h2; omega))
    clear k h7
    have hSL := hU.sl
    go_wp2_with fail
    refine (same_r _ hv11 hSL rfl).mono ?_
    rintro e w12 ⟨rfl, nn, hw12⟩
    have hh : OAt w w.heap.size G w12 b ws := by rw [hw12]; exact h11.drewN nn
    clear hw12 h11 hv11 hSL hU
    go_wp2_with fail
    go_ret
    exact ⟨by simp, hh.below⟩
  · rcases (by omega : (1048576 < a) ∨ (a ≤ 1048576)) with q1 | q1
    · as_aux_lemma =>
      have d0 : decide (0 ≤ a) = true := by simp; omega
      have d1 : decide (a ≤ 1048576) = false := by simp; omega
      have d6 : decide (a < (N : Int) - 1) = false := by simp; omega
      go_enter Try.func9, Try.ntmps9
      go_wp2_with fail
      refine (filled_at (N : Int) s (Keep.refl (fun _ => False) w) (by omega) (by omega) HS.out).mono ?_
      rintro e w1 ⟨b, G, Hh, v, ws, rfl, hl, h, hS, k1, hG, hH, hwb⟩
      clear k1
      obtain ⟨A, c, rfl, hS1, hS2⟩ := hS
      have hlN : ws.length = N := by omega
      subst hlN
      have hS : SL w1 (fun i => G ≤ i ∧ i < Hh) .u64 (.slice A ws.length c) ws := ⟨A, c, rfl, hS1, hS2⟩
      have hwl : G ≤ w1.heap.size := h.2.2.2
      clear hS2 hl
      have HWB := Lib.hid hwb
      clear hwb
      have hpl : placeOf a k = -1 := by have := q1; simp [placeOf, okAt]; omega
      have hin : inn ws (placeOf a k) = false := by rw [hpl]; exact Go.Proofs.Ytfaffpmmjlddeaa.Ar.within_not (by omega)
      have HIN := Lib.hid hin
      clear hpl hin
      go_wp2_with fail
      refine (Field_at a k h 0 2 (by unfold ldW; rw [HIN.out]; rfl) (by unfold erW; rw [HIN.out]; rfl)).mono ?_
      rintro e w2 ⟨rfl, h2, k2⟩
      replace hH := Nat.le_trans hH k2.size
      replace hS := hS.keep k2 (fun i h1 h2 => by first | omega | (obtain ⟨h3, h4⟩ := h1; obtain ⟨h5, h6⟩ := h2; omega))
      clear h k2
      go_wp2_with fail
      refine (SetField_at a k x h2 HX.out 2 ws (by unfold erW; rw [HIN.out]; rfl) (by unfold stW; rw [HIN.out]; rfl)).mono ?_
      rintro e w3 ⟨rfl, h3, k3⟩
      replace hH := Nat.le_trans hH k3.size
      replace hS := hS.keep k3 (fun i h1 h2 => by first | omega | (obtain ⟨h3, h4⟩ := h1; obtain ⟨h5, h6⟩ := h2; omega))
      clear h2 k3
      obtain ⟨ii, hi, hz, hs1, hby⟩ := info_parts info_u64
      have hE := Blk.new w3 24 (#[] : Array Value)
      have kE := (Keep.refl (fun _ => False) w3).alloc (.cells #[] 24)
      have hL : G ≤ w3.heap.size := h3.2.2.2
      replace h3 := h3.stay kE
      replace hS := hS.alloc (.cells #[] 24)
      go_wp2_with (at_builtin; refine wpList_append_new rfl _ _ 35 rfl 24 ii (.int .u64 0) 8 Try.underlying35 hi hz hs1 hby rfl w3.heap.size hE rfl rfl hS ?c1 ?_)
      case c1 => omega
      intro A' c' w4 hq k4
      have hU : UR w4 w3.heap.size A' c' ws := (hq.bound).mono (fun i h => ⟨by have := h.1; omega, h.2⟩)
      replace h3 := h3.stay k4
      replace hS := hS.keep k4 (fun _ _ h => h)
      clear hq k4 hE kE
      generalize w3.heap.size = L at hU hL hH ⊢
      have hl2 : ws.length = ws.length := rfl
      clear hS
      have hok : okAt a = false := by simp [okAt]; omega
      have HOK := Lib.hid hok
      clear hok
      go_wp2_with fail
      refine (Way_at a h3 0 2 (by rw [HOK.out]; rfl) (by rw [HOK.out]; rfl)).mono ?_
      rintro e w6 ⟨rfl, h6, k⟩
      replace hU := hU.keep k (fun i h1 h2 => by first | omega | (obtain ⟨h3, h4⟩ := h1; obtain ⟨h5, h6⟩ := h2; omega))
      clear k
      clear h3
      go_wp2_with fail
      refine (SetWay_at a 5 h6 2 ws (by rw [HOK.out]; rfl) (by rw [HOK.out]; rfl)).mono ?_
      rintro e w7 ⟨rfl, h7, k⟩
      replace hU := hU.keep k (fun i h1 h2 => by first | omega | (obtain ⟨h3, h4⟩ := h1; obtain ⟨h5, h6⟩ := h2; omega))
      clear k
      clear h6
      have hl3 : ws.length = ws.length := rfl
      go_wp2_with fail
      refine (awake_calls _).mono ?_
      rintro e w10 ⟨rfl, k⟩
      replace h7 := h7.stay k
      replace hU := hU.keep k (fun _ _ h => h)
      clear k
      go_wp2_with fail
      refine (words_at h7 (by omega)).mono ?_
      rintro e w11 ⟨v11, rfl, hv11, h11, k⟩
      replace hU := hU.keep k (fun i h1 h2 => by first | omega | (obtain ⟨h3, h4⟩ := h1; obtain ⟨h5, h6⟩ := h2; omega))
      clear k h7
      have hSL := hU.sl
      go_wp2_with fail
      refine (same_r _ hv11 hSL rfl).mono ?_
      rintro e w12 ⟨rfl, nn, hw12⟩
      have hh : OAt w w.heap.size G w12 b ws := by rw [hw12]; exact h11.drewN nn
      clear hw12 h11 hv11 hSL hU
      go_wp2_with fail
      go_ret
      exact ⟨by simp, hh.below⟩
    · rcases (by omega : (k < 0) ∨ (0 ≤ k)) with q2 | q2
      · rcases (by omega : (a < (N : Int) - 1) ∨ ((N : Int) - 1 ≤ a)) with qf | qf
        · as_aux_lemma =>
          have d0 : decide (0 ≤ a) = true := by simp; omega
          have d1 : decide (a ≤ 1048576) = true := by simp; omega
          have d2 : decide (0 ≤ k) = false := by simp; omega
          have d6 : decide (a < (N : Int) - 1) = true := by simp; omega
          go_enter Try.func9, Try.ntmps9
          go_wp2_with fail
          refine (filled_at (N : Int) s (Keep.refl (fun _ => False) w) (by omega) (by omega) HS.out).mono ?_
          rintro e w1 ⟨b, G, Hh, v, ws, rfl, hl, h, hS, k1, hG, hH, hwb⟩
          clear k1
          obtain ⟨A, c, rfl, hS1, hS2⟩ := hS
          have hlN : ws.length = N := by omega
          subst hlN
          have hS : SL w1 (fun i => G ≤ i ∧ i < Hh) .u64 (.slice A ws.length c) ws := ⟨A, c, rfl, hS1, hS2⟩
          have hwl : G ≤ w1.heap.size := h.2.2.2
          clear hS2 hl
          have HWB := Lib.hid hwb
          clear hwb
          obtain ⟨p, rfl⟩ : ∃ p : Nat, a = (p : Int) := ⟨a.toNat, by omega⟩
          have hpl : placeOf (p : Int) k = -1 := by have := q2; simp [placeOf, okAt]; omega
          have hin : inn ws (placeOf (p : Int) k) = false := by rw [hpl]; exact Go.Proofs.Ytfaffpmmjlddeaa.Ar.within_not (by omega)
          have HIN := Lib.hid hin
          clear hpl hin
          go_wp2_with fail
          refine (Field_at (p : Int) k h 0 2 (by unfold ldW; rw [HIN.out]; rfl) (by unfold erW; rw [HIN.out]; rfl)).mono ?_
          rintro e w2 ⟨rfl, h2, k2⟩
          replace hH := Nat.le_trans hH k2.size
          replace hS := hS.keep k2 (fun i h1 h2 => by first | omega | (obtain ⟨h3, h4⟩ := h1; obtain ⟨h5, h6⟩ := h2; omega))
          clear h k2
          go_wp2_with fail
          refine (SetField_at (p : Int) k x h2 HX.out 2 ws (by unfold erW; rw [HIN.out]; rfl) (by unfold stW; rw [HIN.out]; rfl)).mono ?_
          rintro e w3 ⟨rfl, h3, k3⟩
          replace hH := Nat.le_trans hH k3.size
          replace hS := hS.keep k3 (fun i h1 h2 => by first | omega | (obtain ⟨h3, h4⟩ := h1; obtain ⟨h5, h6⟩ := h2; omega))
          clear h2 k3
          obtain ⟨ii, hi, hz, hs1, hby⟩ := info_parts info_u64
          have hE := Blk.new w3 24 (#[] : Array Value)
          have kE := (Keep.refl (fun _ => False) w3).alloc (.cells #[] 24)
          have hL : G ≤ w3.heap.size := h3.2.2.2
          replace h3 := h3.stay kE
          replace hS := hS.alloc (.cells #[] 24)
          go_wp2_with (at_builtin; refine wpList_append_new rfl _ _ 35 rfl 24 ii (.int .u64 0) 8 Try.underlying35 hi hz hs1 hby rfl w3.heap.size hE rfl rfl hS ?c1 ?_)
          case c1 => omega
          intro A' c' w4 hq k4
          have hU : UR w4 w3.heap.size A' c' ws := (hq.bound).mono (fun i h => ⟨by have := h.1; omega, h.2⟩)
          replace h3 := h3.stay k4
          replace hS := hS.keep k4 (fun _ _ h => h)
          clear hq k4 hE kE
          generalize w3.heap.size = L at hU hL hH ⊢
          have hl2 : ws.length = ws.length := rfl
          clear hS
          have hin : inn ws ((p : Int) + 1) = true := inn_of (by omega) (by omega)
          have hok : okAt (p : Int) = true := by simp [okAt]; omega
          have HIN2 := Lib.hid hin
          have HOK := Lib.hid hok
          clear hin hok
          generalize hzz : ws[p + 1]?.getD 0 = z
          have HZ := Lib.hid hzz
          have hz64 : w64 z := hzz ▸ HWB.out (p + 1)
          have hback : IntKind.u64.wrap (wrap64 z) = z := wrap_back hz64
          generalize hyw : wrap64 z = yw at hback
          have HYW := Lib.hid hyw
          clear hzz hz64 hyw
          go_wp2_with fail
          refine (Way_at (p : Int) h3 yw 0 (by rw [HOK.out, if_pos rfl]; unfold ldW; rw [HIN2.out, if_pos rfl, show ((p : Int) + 1).toNat = p + 1 by omega, HZ.out, HYW.out]) (by rw [HOK.out, if_pos rfl]; unfold erW; rw [HIN2.out]; rfl)).mono ?_
          rintro e w6 ⟨rfl, h6, k⟩
          replace hU := hU.keep k (fun i h1 h2 => by first | omega | (obtain ⟨h3, h4⟩ := h1; obtain ⟨h5, h6⟩ := h2; omega))
          clear k
          clear h3
          go_wp2_with fail
          refine (SetWay_at (p : Int) 5 h6 0 (ws.set (p + 1) 5) (by rw [HOK.out, if_pos rfl]; unfold erW; rw [HIN2.out]; rfl) (by rw [HOK.out, if_pos rfl]; unfold stW; rw [HIN2.out, if_pos rfl, show ((p : Int) + 1).toNat = p + 1 by omega]; rfl)).mono ?_
          rintro e w7 ⟨rfl, h7, k⟩
          replace hU := hU.keep k (fun i h1 h2 => by first | omega | (obtain ⟨h3, h4⟩ := h1; obtain ⟨h5, h6⟩ := h2; omega))
          clear k
          clear h6
          obtain ⟨gg, off, rfl, hg1, hg2, hcell, hfz, hset⟩ := hU.write (i := p + 1) (by omega)
          rw [HZ.out] at hcell
          have hU3 := hset 5
          clear hset
          have hfar := (Keep.refl (fun i => i = gg) w7).set_ (p := ⟨gg, off + (p + 1), none⟩) (.inl rfl) (.int .u64 5)
          replace h7 : OAt w w.heap.size G (w7.setCell ⟨gg, off + (p + 1), none⟩ (.int .u64 5)) b _ := ⟨h7.1.keep hfar (fun i h1 h2 => by have := h1.2; omega), h7.2.1.set_ (p := ⟨gg, off + (p + 1), none⟩) (.inr (by simp; omega)) _, h7.2.2.1, by simpa [World.setCell] using h7.2.2.2⟩
          clear hfar hU
          generalize hws3 : ws.set (p + 1) 5 = ws3 at h7 hU3
          have hl3 : ws3.length = ws.length := by rw [← hws3, List.length_set] <;> exact hl2
          clear hws3
          go_wp2_with fail
          generalize w7.setCell ⟨gg, off + (p + 1), none⟩ (.int .u64 5) = w8 at h7 hU3 ⊢
          clear hcell hfz hback
          refine (awake_calls _).mono ?_
          rintro e w10 ⟨rfl, k⟩
          replace h7 := h7.stay k
          replace hU3 := hU3.keep k (fun _ _ h => h)
          clear k
          go_wp2_with fail
          refine (words_at h7 (by omega)).mono ?_
          rintro e w11 ⟨v11, rfl, hv11, h11, k⟩
          replace hU3 := hU3.keep k (fun i h1 h2 => by first | omega | (obtain ⟨h3, h4⟩ := h1; obtain ⟨h5, h6⟩ := h2; omega))
          clear k h7
          have hSL := hU3.sl
          rw [hl3] at hSL
          go_wp2_with fail
          refine (same_r _ hv11 hSL rfl).mono ?_
          rintro e w12 ⟨rfl, nn, hw12⟩
          have hh : OAt w w.heap.size G w12 b ws3 := by rw [hw12]; exact h11.drewN nn
          clear hw12 h11 hv11 hSL hU3
          go_wp2_with fail
          go_ret
          exact ⟨by simp, hh.below⟩
        · as_aux_lemma =>
          have d0 : decide (0 ≤ a) = true := by simp; omega
          have d1 : decide (a ≤ 1048576) = true := by simp; omega
          have d2 : decide (0 ≤ k) = false := by simp; omega
          have d6 : decide (a < (N : Int) - 1) = false := by simp; omega
          go_enter Try.func9, Try.ntmps9
          go_wp2_with fail
          refine (filled_at (N : Int) s (Keep.refl (fun _ => False) w) (by omega) (by omega) HS.out).mono ?_
          rintro e w1 ⟨b, G, Hh, v, ws, rfl, hl, h, hS, k1, hG, hH, hwb⟩
          clear k1
          obtain ⟨A, c, rfl, hS1, hS2⟩ := hS
          have hlN : ws.length = N := by omega
          subst hlN
          have hS : SL w1 (fun i => G ≤ i ∧ i < Hh) .u64 (.slice A ws.length c) ws := ⟨A, c, rfl, hS1, hS2⟩
          have hwl : G ≤ w1.heap.size := h.2.2.2
          clear hS2 hl
          have HWB := Lib.hid hwb
          clear hwb
          have hpl : placeOf a k = -1 := by have := q2; simp [placeOf, okAt]; omega
          have hin : inn ws (placeOf a k) = false := by rw [hpl]; exact Go.Proofs.Ytfaffpmmjlddeaa.Ar.within_not (by omega)
          have HIN := Lib.hid hin
          clear hpl hin
          go_wp2_with fail
          refine (Field_at a k h 0 2 (by unfold ldW; rw [HIN.out]; rfl) (by unfold erW; rw [HIN.out]; rfl)).mono ?_
          rintro e w2 ⟨rfl, h2, k2⟩
          replace hH := Nat.le_trans hH k2.size
          replace hS := hS.keep k2 (fun i h1 h2 => by first | omega | (obtain ⟨h3, h4⟩ := h1; obtain ⟨h5, h6⟩ := h2; omega))
          clear h k2
          go_wp2_with fail
          refine (SetField_at a k x h2 HX.out 2 ws (by unfold erW; rw [HIN.out]; rfl) (by unfold stW; rw [HIN.out]; rfl)).mono ?_
          rintro e w3 ⟨rfl, h3, k3⟩
          replace hH := Nat.le_trans hH k3.size
          replace hS := hS.keep k3 (fun i h1 h2 => by first | omega | (obtain ⟨h3, h4⟩ := h1; obtain ⟨h5, h6⟩ := h2; omega))
          clear h2 k3
          obtain ⟨ii, hi, hz, hs1, hby⟩ := info_parts info_u64
          have hE := Blk.new w3 24 (#[] : Array Value)
          have kE := (Keep.refl (fun _ => False) w3).alloc (.cells #[] 24)
          have hL : G ≤ w3.heap.size := h3.2.2.2
          replace h3 := h3.stay kE
          replace hS := hS.alloc (.cells #[] 24)
          go_wp2_with (at_builtin; refine wpList_append_new rfl _ _ 35 rfl 24 ii (.int .u64 0) 8 Try.underlying35 hi hz hs1 hby rfl w3.heap.size hE rfl rfl hS ?c1 ?_)
          case c1 => omega
          intro A' c' w4 hq k4
          have hU : UR w4 w3.heap.size A' c' ws := (hq.bound).mono (fun i h => ⟨by have := h.1; omega, h.2⟩)
          replace h3 := h3.stay k4
          replace hS := hS.keep k4 (fun _ _ h => h)
          clear hq k4 hE kE
          generalize w3.heap.size = L at hU hL hH ⊢
          have hl2 : ws.length = ws.length := rfl
          clear hS
          have hin : inn ws (a + 1) = false := Go.Proofs.Ytfaffpmmjlddeaa.Ar.within_not (by omega)
          have hok : okAt a = true := by simp [okAt]; omega
          have HIN2 := Lib.hid hin
          have HOK := Lib.hid hok
          clear hin hok
          go_wp2_with fail
          refine (Way_at a h3 0 2 (by rw [HOK.out, if_pos rfl]; unfold ldW; rw [HIN2.out, if_neg (by simp)]; exact wrap_id (by omega) (by omega)) (by rw [HOK.out, if_pos rfl]; unfold erW; rw [HIN2.out]; rfl)).mono ?_
          rintro e w6 ⟨rfl, h6, k⟩
          replace hU := hU.keep k (fun i h1 h2 => by first | omega | (obtain ⟨h3, h4⟩ := h1; obtain ⟨h5, h6⟩ := h2; omega))
          clear k
          clear h3
          go_wp2_with fail
          refine (SetWay_at a 5 h6 2 ws (by rw [HOK.out, if_pos rfl]; unfold erW; rw [HIN2.out]; rfl) (by rw [HOK.out, if_pos rfl]; unfold stW; rw [HIN2.out]; rfl)).mono ?_
          rintro e w7 ⟨rfl, h7, k⟩
          replace hU := hU.keep k (fun i h1 h2 => by first | omega | (obtain ⟨h3, h4⟩ := h1; obtain ⟨h5, h6⟩ := h2; omega))
          clear k
          clear h6
          have hl3 : ws.length = ws.length := rfl
          go_wp2_with fail
          refine (awake_calls _).mono ?_
          rintro e w10 ⟨rfl, k⟩
          replace h7 := h7.stay k
          replace hU := hU.keep k (fun _ _ h => h)
          clear k
          go_wp2_with fail
          refine (words_at h7 (by omega)).mono ?_
          rintro e w11 ⟨v11, rfl, hv11, h11, k⟩
          replace hU := hU.keep k (fun i h1 h2 => by first | omega | (obtain ⟨h3, h4⟩ := h1; obtain ⟨h5, h6⟩ := h2; omega))
          clear k h7
          have hSL := hU.sl
          go_wp2_with fail
          refine (same_r _ hv11 hSL rfl).mono ?_
          rintro e w12 ⟨rfl, nn, hw12⟩
          have hh : OAt w w.heap.size G w12 b ws := by rw [hw12]; exact h11.drewN nn
          clear hw12 h11 hv11 hSL hU
          go_wp2_with fail
          go_ret
          exact ⟨by simp, hh.below⟩
      · rcases (by omega : (64 ≤ k) ∨ (k < 64)) with q3 | q3
        · rcases (by omega : (a < (N : Int) - 1) ∨ ((N : Int) - 1 ≤ a)) with qf | qf
          · as_aux_lemma =>
            have d0 : decide (0 ≤ a) = true := by simp; omega
            have d1 : decide (a ≤ 1048576) = true := by simp; omega
            have d2 : decide (0 ≤ k) = true := by simp; omega
            have d3 : decide (k < 64) = false := by simp; omega
            have d6 : decide (a < (N : Int) - 1) = true := by simp; omega
            go_enter Try.func9, Try.ntmps9
            go_wp2_with fail
            refine (filled_at (N : Int) s (Keep.refl (fun _ => False) w) (by omega) (by omega) HS.out).mono ?_
            rintro e w1 ⟨b, G, Hh, v, ws, rfl, hl, h, hS, k1, hG, hH, hwb⟩
            clear k1
            obtain ⟨A, c, rfl, hS1, hS2⟩ := hS
            have hlN : ws.length = N := by omega
            subst hlN
            have hS : SL w1 (fun i => G ≤ i ∧ i < Hh) .u64 (.slice A ws.length c) ws := ⟨A, c, rfl, hS1, hS2⟩
            have hwl : G ≤ w1.heap.size := h.2.2.2
            clear hS2 hl
            have HWB := Lib.hid hwb
            clear hwb
            obtain ⟨p, rfl⟩ : ∃ p : Nat, a = (p : Int) := ⟨a.toNat, by omega⟩
            have hpl : placeOf (p : Int) k = -1 := by have := q3; simp [placeOf, okAt]; omega
            have hin : inn ws (placeOf (p : Int) k) = false := by rw [hpl]; exact Go.Proofs.Ytfaffpmmjlddeaa.Ar.within_not (by omega)
            have HIN := Lib.hid hin
            clear hpl hin
            go_wp2_with fail
            refine (Field_at (p : Int) k h 0 2 (by unfold ldW; rw [HIN.out]; rfl) (by unfold erW; rw [HIN.out]; rfl)).mono ?_
            rintro e w2 ⟨rfl, h2, k2⟩
            replace hH := Nat.le_trans hH k2.size
            replace hS := hS.keep k2 (fun i h1 h2 => by first | omega | (obtain ⟨h3, h4⟩ := h1; obtain ⟨h5, h6⟩ := h2; omega))
            clear h k2
            go_wp2_with fail
            refine (SetField_at (p : Int) k x h2 HX.out 2 ws (by unfold erW; rw [HIN.out]; rfl) (by unfold stW; rw [HIN.out]; rfl)).mono ?_
            rintro e w3 ⟨rfl, h3, k3⟩
            replace hH := Nat.le_trans hH k3.size
            replace hS := hS.keep k3 (fun i h1 h2 => by first | omega | (obtain ⟨h3, h4⟩ := h1; obtain ⟨h5, h6⟩ := h2; omega))
            clear h2 k3
            obtain ⟨ii, hi, hz, hs1, hby⟩ := info_parts info_u64
            have hE := Blk.new w3 24 (#[] : Array Value)
            have kE := (Keep.refl (fun _ => False) w3).alloc (.cells #[] 24)
            have hL : G ≤ w3.heap.size := h3.2.2.2
            replace h3 := h3.stay kE
            replace hS := hS.alloc (.cells #[] 24)
            go_wp2_with (at_builtin; refine wpList_append_new rfl _ _ 35 rfl 24 ii (.int .u64 0) 8 Try.underlying35 hi hz hs1 hby rfl w3.heap.size hE rfl rfl hS ?c1 ?_)
            case c1 => omega
            intro A' c' w4 hq k4
            have hU : UR w4 w3.heap.size A' c' ws := (hq.bound).mono (fun i h => ⟨by have := h.1; omega, h.2⟩)
            replace h3 := h3.stay k4
            replace hS := hS.keep k4 (fun _ _ h => h)
            clear hq k4 hE kE
            generalize w3.heap.size = L at hU hL hH ⊢
            have hl2 : ws.length = ws.length := rfl
            clear hS
            have hin : inn ws ((p : Int) + 1) = true := inn_of (by omega) (by omega)
            have hok : okAt (p : Int) = true := by simp [okAt]; omega
            have HIN2 := Lib.hid hin
            have HOK := Lib.hid hok
            clear hin hok
            generalize hzz : ws[p + 1]?.getD 0 = z
            have HZ := Lib.hid hzz
            have hz64 : w64 z := hzz ▸ HWB.out (p + 1)
            have hback : IntKind.u64.wrap (wrap64 z) = z := wrap_back hz64
            generalize hyw : wrap64 z = yw at hback
            have HYW := Lib.hid hyw
            clear hzz hz64 hyw
            go_wp2_with fail
            refine (Way_at (p : Int) h3 yw 0 (by rw [HOK.out, if_pos rfl]; unfold ldW; rw [HIN2.out, if_pos rfl, show ((p : Int) + 1).toNat = p + 1 by omega, HZ.out, HYW.out]) (by rw [HOK.out, if_pos rfl]; unfold erW; rw [HIN2.out]; rfl)).mono ?_
            rintro e w6 ⟨rfl, h6, k⟩
            replace hU := hU.keep k (fun i h1 h2 => by first | omega | (obtain ⟨h3, h4⟩ := h1; obtain ⟨h5, h6⟩ := h2; omega))
            clear k
            clear h3
            go_wp2_with fail
            refine (SetWay_at (p : Int) 5 h6 0 (ws.set (p + 1) 5) (by rw [HOK.out, if_pos rfl]; unfold erW; rw [HIN2.out]; rfl) (by rw [HOK.out, if_pos rfl]; unfold stW; rw [HIN2.out, if_pos rfl, show ((p : Int) + 1).toNat = p + 1 by omega]; rfl)).mono ?_
            rintro e w7 ⟨rfl, h7, k⟩
            replace hU := hU.keep k (fun i h1 h2 => by first | omega | (obtain ⟨h3, h4⟩ := h1; obtain ⟨h5, h6⟩ := h2; omega))
            clear k
            clear h6
            obtain ⟨gg, off, rfl, hg1, hg2, hcell, hfz, hset⟩ := hU.write (i := p + 1) (by omega)
            rw [HZ.out] at hcell
            have hU3 := hset 5
            clear hset
            have hfar := (Keep.refl (fun i => i = gg) w7).set_ (p := ⟨gg, off + (p + 1), none⟩) (.inl rfl) (.int .u64 5)
            replace h7 : OAt w w.heap.size G (w7.setCell ⟨gg, off + (p + 1), none⟩ (.int .u64 5)) b _ := ⟨h7.1.keep hfar (fun i h1 h2 => by have := h1.2; omega), h7.2.1.set_ (p := ⟨gg, off + (p + 1), none⟩) (.inr (by simp; omega)) _, h7.2.2.1, by simpa [World.setCell] using h7.2.2.2⟩
            clear hfar hU
            generalize hws3 : ws.set (p + 1) 5 = ws3 at h7 hU3
            have hl3 : ws3.length = ws.length := by rw [← hws3, List.length_set] <;> exact hl2
            clear hws3
            go_wp2_with fail
            generalize w7.setCell ⟨gg, off + (p + 1), none⟩ (.int .u64 5) = w8 at h7 hU3 ⊢
            clear hcell hfz hback
            refine (awake_calls _).mono ?_
            rintro e w10 ⟨rfl, k⟩
            replace h7 := h7.stay k
            replace hU3 := hU3.keep k (fun _ _ h => h)
            clear k
            go_wp2_with fail
            refine (words_at h7 (by omega)).mono ?_
            rintro e w11 ⟨v11, rfl, hv11, h11, k⟩
            replace hU3 := hU3.keep k (fun i h1 h2 => by first | omega | (obtain ⟨h3, h4⟩ := h1; obtain ⟨h5, h6⟩ := h2; omega))
            clear k h7
            have hSL := hU3.sl
            rw [hl3] at hSL
            go_wp2_with fail
            refine (same_r _ hv11 hSL rfl).mono ?_
            rintro e w12 ⟨rfl, nn, hw12⟩
            have hh : OAt w w.heap.size G w12 b ws3 := by rw [hw12]; exact h11.drewN nn
            clear hw12 h11 hv11 hSL hU3
            go_wp2_with fail
            go_ret
            exact ⟨by simp, hh.below⟩
          · as_aux_lemma =>
            have d0 : decide (0 ≤ a) = true := by simp; omega
            have d1 : decide (a ≤ 1048576) = true := by simp; omega
            have d2 : decide (0 ≤ k) = true := by simp; omega
            have d3 : decide (k < 64) = false := by simp; omega
            have d6 : decide (a < (N : Int) - 1) = false := by simp; omega
            go_enter Try.func9, Try.ntmps9
            go_wp2_with fail
            refine (filled_at (N : Int) s (Keep.refl (fun _ => False) w) (by omega) (by omega) HS.out).mono ?_
            rintro e w1 ⟨b, G, Hh, v, ws, rfl, hl, h, hS, k1, hG, hH, hwb⟩
            clear k1
            obtain ⟨A, c, rfl, hS1, hS2⟩ := hS
            have hlN : ws.length = N := by omega
            subst hlN
            have hS : SL w1 (fun i => G ≤ i ∧ i < Hh) .u64 (.slice A ws.length c) ws := ⟨A, c, rfl, hS1, hS2⟩
            have hwl : G ≤ w1.heap.size := h.2.2.2
            clear hS2 hl
            have HWB := Lib.hid hwb
            clear hwb
            have hpl : placeOf a k = -1 := by have := q3; simp [placeOf, okAt]; omega
            have hin : inn ws (placeOf a k) = false := by rw [hpl]; exact Go.Proofs.Ytfaffpmmjlddeaa.Ar.within_not (by omega)
            have HIN := Lib.hid hin
            clear hpl hin
            go_wp2_with fail
            refine (Field_at a k h 0 2 (by unfold ldW; rw [HIN.out]; rfl) (by unfold erW; rw [HIN.out]; rfl)).mono ?_
            rintro e w2 ⟨rfl, h2, k2⟩
            replace hH := Nat.le_trans hH k2.size
            replace hS := hS.keep k2 (fun i h1 h2 => by first | omega | (obtain ⟨h3, h4⟩ := h1; obtain ⟨h5, h6⟩ := h2; omega))
            clear h k2
            go_wp2_with fail
            refine (SetField_at a k x h2 HX.out 2 ws (by unfold erW; rw [HIN.out]; rfl) (by unfold stW; rw [HIN.out]; rfl)).mono ?_
            rintro e w3 ⟨rfl, h3, k3⟩
            replace hH := Nat.le_trans hH k3.size
            replace hS := hS.keep k3 (fun i h1 h2 => by first | omega | (obtain ⟨h3, h4⟩ := h1; obtain ⟨h5, h6⟩ := h2; omega))
            clear h2 k3
            obtain ⟨ii, hi, hz, hs1, hby⟩ := info_parts info_u64
            have hE := Blk.new w3 24 (#[] : Array Value)
            have kE := (Keep.refl (fun _ => False) w3).alloc (.cells #[] 24)
            have hL : G ≤ w3.heap.size := h3.2.2.2
            replace h3 := h3.stay kE
            replace hS := hS.alloc (.cells #[] 24)
            go_wp2_with (at_builtin; refine wpList_append_new rfl _ _ 35 rfl 24 ii (.int .u64 0) 8 Try.underlying35 hi hz hs1 hby rfl w3.heap.size hE rfl rfl hS ?c1 ?_)
            case c1 => omega
            intro A' c' w4 hq k4
            have hU : UR w4 w3.heap.size A' c' ws := (hq.bound).mono (fun i h => ⟨by have := h.1; omega, h.2⟩)
            replace h3 := h3.stay k4
            replace hS := hS.keep k4 (fun _ _ h => h)
            clear hq k4 hE kE
            generalize w3.heap.size = L at hU hL hH ⊢
            have hl2 : ws.length = ws.length := rfl
            clear hS
            have hin : inn ws (a + 1) = false := Go.Proofs.Ytfaffpmmjlddeaa.Ar.within_not (by omega)
            have hok : okAt a = true := by simp [okAt]; omega
            have HIN2 := Lib.hid hin
            have HOK := Lib.hid hok
            clear hin hok
            go_wp2_with fail
            refine (Way_at a h3 0 2 (by rw [HOK.out, if_pos rfl]; unfold ldW; rw [HIN2.out, if_neg (by simp)]; exact wrap_id (by omega) (by omega)) (by rw [HOK.out, if_pos rfl]; unfold erW; rw [HIN2.out]; rfl)).mono ?_
            rintro e w6 ⟨rfl, h6, k⟩
            replace hU := hU.keep k (fun i h1 h2 => by first | omega | (obtain ⟨h3, h4⟩ := h1; obtain ⟨h5, h6⟩ := h2; omega))
            clear k
            clear h3
            go_wp2_with fail
            refine (SetWay_at a 5 h6 2 ws (by rw [HOK.out, if_pos rfl]; unfold erW; rw [HIN2.out]; rfl) (by rw [HOK.out, if_pos rfl]; unfold stW; rw [HIN2.out]; rfl)).mono ?_
            rintro e w7 ⟨rfl, h7, k⟩
            replace hU := hU.keep k (fun i h1 h2 => by first | omega | (obtain ⟨h3, h4⟩ := h1; obtain ⟨h5, h6⟩ := h2; omega))
            clear k
            clear h6
            have hl3 : ws.length = ws.length := rfl
            go_wp2_with fail
            refine (awake_calls _).mono ?_
            rintro e w10 ⟨rfl, k⟩
            replace h7 := h7.stay k
            replace hU := hU.keep k (fun _ _ h => h)
            clear k
            go_wp2_with fail
            refine (words_at h7 (by omega)).mono ?_
            rintro e w11 ⟨v11, rfl, hv11, h11, k⟩
            replace hU := hU.keep k (fun i h1 h2 => by first | omega | (obtain ⟨h3, h4⟩ := h1; obtain ⟨h5, h6⟩ := h2; omega))
            clear k h7
            have hSL := hU.sl
            go_wp2_with fail
            refine (same_r _ hv11 hSL rfl).mono ?_
            rintro e w12 ⟨rfl, nn, hw12⟩
            have hh : OAt w w.heap.size G w12 b ws := by rw [hw12]; exact h11.drewN nn
            clear hw12 h11 hv11 hSL hU
            go_wp2_with fail
            go_ret
            exact ⟨by simp, hh.below⟩
        · rcases (by omega : ((N : Int) ≤ a + 2 + k) ∨ (a + 2 + k < (N : Int))) with q4 | q4
          · rcases (by omega : (a < (N : Int) - 1) ∨ ((N : Int) - 1 ≤ a)) with qf | qf
            · as_aux_lemma =>
              have d0 : decide (0 ≤ a) = true := by simp; omega
              have d1 : decide (a ≤ 1048576) = true := by simp; omega
              have d2 : decide (0 ≤ k) = true := by simp; omega
              have d3 : decide (k < 64) = true := by simp; omega
              have d4 : decide (a + 2 + k < (N : Int)) = false := by simp; omega
              have d6 : decide (a < (N : Int) - 1) = true := by simp; omega
              go_enter Try.func9, Try.ntmps9
              go_wp2_with fail
              refine (filled_at (N : Int) s (Keep.refl (fun _ => False) w) (by omega) (by omega) HS.out).mono ?_
              rintro e w1 ⟨b, G, Hh, v, ws, rfl, hl, h, hS, k1, hG, hH, hwb⟩
              clear k1
              obtain ⟨A, c, rfl, hS1, hS2⟩ := hS
              have hlN : ws.length = N := by omega
              subst hlN
              have hS : SL w1 (fun i => G ≤ i ∧ i < Hh) .u64 (.slice A ws.length c) ws := ⟨A, c, rfl, hS1, hS2⟩
              have hwl : G ≤ w1.heap.size := h.2.2.2
              clear hS2 hl
              have HWB := Lib.hid hwb
              clear hwb
              obtain ⟨p, rfl⟩ : ∃ p : Nat, a = (p : Int) := ⟨a.toNat, by omega⟩
              have hpl : placeOf (p : Int) k = (p : Int) + 2 + k := by unfold placeOf okAt; rw [d0, d1, d2, d3]; simp
              have hin : inn ws (placeOf (p : Int) k) = false := by rw [hpl]; exact Go.Proofs.Ytfaffpmmjlddeaa.Ar.within_not (by omega)
              have HIN := Lib.hid hin
              clear hpl hin
              go_wp2_with fail
              refine (Field_at (p : Int) k h 0 2 (by unfold ldW; rw [HIN.out]; rfl) (by unfold erW; rw [HIN.out]; rfl)).mono ?_
              rintro e w2 ⟨rfl, h2, k2⟩
              replace hH := Nat.le_trans hH k2.size
              replace hS := hS.keep k2 (fun i h1 h2 => by first | omega | (obtain ⟨h3, h4⟩ := h1; obtain ⟨h5, h6⟩ := h2; omega))
              clear h k2
              go_wp2_with fail
              refine (SetField_at (p : Int) k x h2 HX.out 2 ws (by unfold erW; rw [HIN.out]; rfl) (by unfold stW; rw [HIN.out]; rfl)).mono ?_
              rintro e w3 ⟨rfl, h3, k3⟩
              replace hH := Nat.le_trans hH k3.size
              replace hS := hS.keep k3 (fun i h1 h2 => by first | omega | (obtain ⟨h3, h4⟩ := h1; obtain ⟨h5, h6⟩ := h2; omega))
              clear h2 k3
              obtain ⟨ii, hi, hz, hs1, hby⟩ := info_parts info_u64
              have hE := Blk.new w3 24 (#[] : Array Value)
              have kE := (Keep.refl (fun _ => False) w3).alloc (.cells #[] 24)
              have hL : G ≤ w3.heap.size := h3.2.2.2
              replace h3 := h3.stay kE
              replace hS := hS.alloc (.cells #[] 24)
              go_wp2_with (at_builtin; refine wpList_append_new rfl _ _ 35 rfl 24 ii (.int .u64 0) 8 Try.underlying35 hi hz hs1 hby rfl w3.heap.size hE rfl rfl hS ?c1 ?_)
              case c1 => omega
              intro A' c' w4 hq k4
              have hU : UR w4 w3.heap.size A' c' ws := (hq.bound).mono (fun i h => ⟨by have := h.1; omega, h.2⟩)
              replace h3 := h3.stay k4
              replace hS := hS.keep k4 (fun _ _ h => h)
              clear hq k4 hE kE
              generalize w3.heap.size = L at hU hL hH ⊢
              have hl2 : ws.length = ws.length := rfl
              clear hS
              have hin : inn ws ((p : Int) + 1) = true := inn_of (by omega) (by omega)
              have hok : okAt (p : Int) = true := by simp [okAt]; omega
              have HIN2 := Lib.hid hin
              have HOK := Lib.hid hok
              clear hin hok
              generalize hzz : ws[p + 1]?.getD 0 = z
              have HZ := Lib.hid hzz
              have hz64 : w64 z := hzz ▸ HWB.out (p + 1)
              have hback : IntKind.u64.wrap (wrap64 z) = z := wrap_back hz64
              generalize hyw : wrap64 z = yw at hback
              have HYW := Lib.hid hyw
              clear hzz hz64 hyw
              go_wp2_with fail
              refine (Way_at (p : Int) h3 yw 0 (by rw [HOK.out, if_pos rfl]; unfold ldW; rw [HIN2.out, if_pos rfl, show ((p : Int) + 1).toNat = p + 1 by omega, HZ.out, HYW.out]) (by rw [HOK.out, if_pos rfl]; unfold erW; rw [HIN2.out]; rfl)).mono ?_
              rintro e w6 ⟨rfl, h6, k⟩
              replace hU := hU.keep k (fun i h1 h2 => by first | omega | (obtain ⟨h3, h4⟩ := h1; obtain ⟨h5, h6⟩ := h2; omega))
              clear k
              clear h3
              go_wp2_with fail
              refine (SetWay_at (p : Int) 5 h6 0 (ws.set (p + 1) 5) (by rw [HOK.out, if_pos rfl]; unfold erW; rw [HIN2.out]; rfl) (by rw [HOK.out, if_pos rfl]; unfold stW; rw [HIN2.out, if_pos rfl, show ((p : Int) + 1).toNat = p + 1 by omega]; rfl)).mono ?_
              rintro e w7 ⟨rfl, h7, k⟩
              replace hU := hU.keep k (fun i h1 h2 => by first | omega | (obtain ⟨h3, h4⟩ := h1; obtain ⟨h5, h6⟩ := h2; omega))
              clear k
              clear h6
              obtain ⟨gg, off, rfl, hg1, hg2, hcell, hfz, hset⟩ := hU.write (i := p + 1) (by omega)
              rw [HZ.out] at hcell
              have hU3 := hset 5
              clear hset
              have hfar := (Keep.refl (fun i => i = gg) w7).set_ (p := ⟨gg, off + (p + 1), none⟩) (.inl rfl) (.int .u64 5)
              replace h7 : OAt w w.heap.size G (w7.setCell ⟨gg, off + (p + 1), none⟩ (.int .u64 5)) b _ := ⟨h7.1.keep hfar (fun i h1 h2 => by have := h1.2; omega), h7.2.1.set_ (p := ⟨gg, off + (p + 1), none⟩) (.inr (by simp; omega)) _, h7.2.2.1, by simpa [World.setCell] using h7.2.2.2⟩
              clear hfar hU
              generalize hws3 : ws.set (p + 1) 5 = ws3 at h7 hU3
              have hl3 : ws3.length = ws.length := by rw [← hws3, List.length_set] <;> exact hl2
              clear hws3
              go_wp2_with fail
              generalize w7.setCell ⟨gg, off + (p + 1), none⟩ (.int .u64 5) = w8 at h7 hU3 ⊢
              clear hcell hfz hback
              refine (awake_calls _).mono ?_
              rintro e w10 ⟨rfl, k⟩
              replace h7 := h7.stay k
              replace hU3 := hU3.keep k (fun _ _ h => h)
              clear k
              go_wp2_with fail
              refine (words_at h7 (by omega)).mono ?_
              rintro e w11 ⟨v11, rfl, hv11, h11, k⟩
              replace hU3 := hU3.keep k (fun i h1 h2 => by first | omega | (obtain ⟨h3, h4⟩ := h1; obtain ⟨h5, h6⟩ := h2; omega))
              clear k h7
              have hSL := hU3.sl
              rw [hl3] at hSL
              go_wp2_with fail
              refine (same_r _ hv11 hSL rfl).mono ?_
              rintro e w12 ⟨rfl, nn, hw12⟩
              have hh : OAt w w.heap.size G w12 b ws3 := by rw [hw12]; exact h11.drewN nn
              clear hw12 h11 hv11 hSL hU3
              go_wp2_with fail
              go_ret
              exact ⟨by simp, hh.below⟩
            · as_aux_lemma =>
              have d0 : decide (0 ≤ a) = true := by simp; omega
              have d1 : decide (a ≤ 1048576) = true := by simp; omega
              have d2 : decide (0 ≤ k) = true := by simp; omega
              have d3 : decide (k < 64) = true := by simp; omega
              have d4 : decide (a + 2 + k < (N : Int)) = false := by simp; omega
              have d6 : decide (a < (N : Int) - 1) = false := by simp; omega
              go_enter Try.func9, Try.ntmps9
              go_wp2_with fail
              refine (filled_at (N : Int) s (Keep.refl (fun _ => False) w) (by omega) (by omega) HS.out).mono ?_
              rintro e w1 ⟨b, G, Hh, v, ws, rfl, hl, h, hS, k1, hG, hH, hwb⟩
              clear k1
              obtain ⟨A, c, rfl, hS1, hS2⟩ := hS
              have hlN : ws.length = N := by omega
              subst hlN
              have hS : SL w1 (fun i => G ≤ i ∧ i < Hh) .u64 (.slice A ws.length c) ws := ⟨A, c, rfl, hS1, hS2⟩
              have hwl : G ≤ w1.heap.size := h.2.2.2
              clear hS2 hl
              have HWB := Lib.hid hwb
              clear hwb
              have hpl : placeOf a k = a + 2 + k := by unfold placeOf okAt; rw [d0, d1, d2, d3]; simp
              have hin : inn ws (placeOf a k) = false := by rw [hpl]; exact Go.Proofs.Ytfaffpmmjlddeaa.Ar.within_not (by omega)
              have HIN := Lib.hid hin
              clear hpl hin
              go_wp2_with fail
              refine (Field_at a k h 0 2 (by unfold ldW; rw [HIN.out]; rfl) (by unfold erW; rw [HIN.out]; rfl)).mono ?_
              rintro e w2 ⟨rfl, h2, k2⟩
              replace hH := Nat.le_trans hH k2.size
              replace hS := hS.keep k2 (fun i h1 h2 => by first | omega | (obtain ⟨h3, h4⟩ := h1; obtain ⟨h5, h6⟩ := h2; omega))
              clear h k2
              go_wp2_with fail
              refine (SetField_at a k x h2 HX.out 2 ws (by unfold erW; rw [HIN.out]; rfl) (by unfold stW; rw [HIN.out]; rfl)).mono ?_
              rintro e w3 ⟨rfl, h3, k3⟩
              replace hH := Nat.le_trans hH k3.size
              replace hS := hS.keep k3 (fun i h1 h2 => by first | omega | (obtain ⟨h3, h4⟩ := h1; obtain ⟨h5, h6⟩ := h2; omega))
              clear h2 k3
              obtain ⟨ii, hi, hz, hs1, hby⟩ := info_parts info_u64
              have hE := Blk.new w3 24 (#[] : Array Value)
              have kE := (Keep.refl (fun _ => False) w3).alloc (.cells #[] 24)
              have hL : G ≤ w3.heap.size := h3.2.2.2
              replace h3 := h3.stay kE
              replace hS := hS.alloc (.cells #[] 24)
              go_wp2_with (at_builtin; refine wpList_append_new rfl _ _ 35 rfl 24 ii (.int .u64 0) 8 Try.underlying35 hi hz hs1 hby rfl w3.heap.size hE rfl rfl hS ?c1 ?_)
              case c1 => omega
              intro A' c' w4 hq k4
              have hU : UR w4 w3.heap.size A' c' ws := (hq.bound).mono (fun i h => ⟨by have := h.1; omega, h.2⟩)
              replace h3 := h3.stay k4
              replace hS := hS.keep k4 (fun _ _ h => h)
              clear hq k4 hE kE
              generalize w3.heap.size = L at hU hL hH ⊢
              have hl2 : ws.length = ws.length := rfl
              clear hS
              have hin : inn ws (a + 1) = false := Go.Proofs.Ytfaffpmmjlddeaa.Ar.within_not (by omega)
              have hok : okAt a = true := by simp [okAt]; omega
              have HIN2 := Lib.hid hin
              have HOK := Lib.hid hok
              clear hin hok
              go_wp2_with fail
              refine (Way_at a h3 0 2 (by rw [HOK.out, if_pos rfl]; unfold ldW; rw [HIN2.out, if_neg (by simp)]; exact wrap_id (by omega) (by omega)) (by rw [HOK.out, if_pos rfl]; unfold erW; rw [HIN2.out]; rfl)).mono ?_
              rintro e w6 ⟨rfl, h6, k⟩
              replace hU := hU.keep k (fun i h1 h2 => by first | omega | (obtain ⟨h3, h4⟩ := h1; obtain ⟨h5, h6⟩ := h2; omega))
              clear k
              clear h3
              go_wp2_with fail
              refine (SetWay_at a 5 h6 2 ws (by rw [HOK.out, if_pos rfl]; unfold erW; rw [HIN2.out]; rfl) (by rw [HOK.out, if_pos rfl]; unfold stW; rw [HIN2.out]; rfl)).mono ?_
              rintro e w7 ⟨rfl, h7, k⟩
              replace hU := hU.keep k (fun i h1 h2 => by first | omega | (obtain ⟨h3, h4⟩ := h1; obtain ⟨h5, h6⟩ := h2; omega))
              clear k
              clear h6
              have hl3 : ws.length = ws.length := rfl
              go_wp2_with fail
              refine (awake_calls _).mono ?_
              rintro e w10 ⟨rfl, k⟩
              replace h7 := h7.stay k
              replace hU := hU.keep k (fun _ _ h => h)
              clear k
              go_wp2_with fail
              refine (words_at h7 (by omega)).mono ?_
              rintro e w11 ⟨v11, rfl, hv11, h11, k⟩
              replace hU := hU.keep k (fun i h1 h2 => by first | omega | (obtain ⟨h3, h4⟩ := h1; obtain ⟨h5, h6⟩ := h2; omega))
              clear k h7
              have hSL := hU.sl
              go_wp2_with fail
              refine (same_r _ hv11 hSL rfl).mono ?_
              rintro e w12 ⟨rfl, nn, hw12⟩
              have hh : OAt w w.heap.size G w12 b ws := by rw [hw12]; exact h11.drewN nn
              clear hw12 h11 hv11 hSL hU
              go_wp2_with fail
              go_ret
              exact ⟨by simp, hh.below⟩
          · as_aux_lemma =>
            have d0 : decide (0 ≤ a) = true := by simp; omega
            have d1 : decide (a ≤ 1048576) = true := by simp; omega
            have d2 : decide (0 ≤ k) = true := by simp; omega
            have d3 : decide (k < 64) = true := by simp; omega
            have d4 : decide (a + 2 + k < (N : Int)) = true := by simp; omega
            have d6 : decide (a < (N : Int) - 1) = true := by simp; omega
            go_enter Try.func9, Try.ntmps9
            go_wp2_with fail
            refine (filled_at (N : Int) s (Keep.refl (fun _ => False) w) (by omega) (by omega) HS.out).mono ?_
            rintro e w1 ⟨b, G, Hh, v, ws, rfl, hl, h, hS, k1, hG, hH, hwb⟩
            clear k1
            obtain ⟨A, c, rfl, hS1, hS2⟩ := hS
            have hlN : ws.length = N := by omega
            subst hlN
            have hS : SL w1 (fun i => G ≤ i ∧ i < Hh) .u64 (.slice A ws.length c) ws := ⟨A, c, rfl, hS1, hS2⟩
            have hwl : G ≤ w1.heap.size := h.2.2.2
            clear hS2 hl
            have HWB := Lib.hid hwb
            clear hwb
            obtain ⟨p, rfl⟩ : ∃ p : Nat, a = (p : Int) := ⟨a.toNat, by omega⟩
            obtain ⟨q, rfl⟩ : ∃ q : Nat, k = (q : Int) := ⟨k.toNat, by omega⟩
            have hpl : placeOf (p : Int) (q : Int) = ((p + 2 + q : Nat) : Int) := by unfold placeOf okAt; rw [d0, d1, d2, d3]; simp
            have hin : inn ws ((p + 2 + q : Nat) : Int) = true := inn_of (by omega) (by omega)
            generalize hy : ws[p + 2 + q]?.getD 0 = y
            have HPL := Lib.hid hpl
            have HIN := Lib.hid hin
            have HY := Lib.hid hy
            clear hpl hin hy
            go_wp2_with fail
            refine (Field_at (p : Int) (q : Int) h y 0 (by rw [HPL.out]; unfold ldW; rw [HIN.out, if_pos rfl, Int.toNat_natCast]; exact HY.out) (by rw [HPL.out]; unfold erW; rw [HIN.out]; rfl)).mono ?_
            rintro e w2 ⟨rfl, h2, k2⟩
            replace hH := Nat.le_trans hH k2.size
            replace hS := hS.keep k2 (fun i h1 h2 => by first | omega | (obtain ⟨h3, h4⟩ := h1; obtain ⟨h5, h6⟩ := h2; omega))
            clear h k2
            go_wp2_with fail
            refine (SetField_at (p : Int) (q : Int) x h2 HX.out 0 (ws.set (p + 2 + q) x) (by rw [HPL.out]; unfold erW; rw [HIN.out]; rfl) (by rw [HPL.out]; unfold stW; rw [HIN.out, if_pos rfl, Int.toNat_natCast])).mono ?_
            rintro e w3 ⟨rfl, h3, k3⟩
            replace hH := Nat.le_trans hH k3.size
            replace hS := hS.keep k3 (fun i h1 h2 => by first | omega | (obtain ⟨h3, h4⟩ := h1; obtain ⟨h5, h6⟩ := h2; omega))
            clear h2 k3
            obtain ⟨ii, hi, hz, hs1, hby⟩ := info_parts info_u64
            have hE := Blk.new w3 24 (#[] : Array Value)
            have kE := (Keep.refl (fun _ => False) w3).alloc (.cells #[] 24)
            have hL : G ≤ w3.heap.size := h3.2.2.2
            replace h3 := h3.stay kE
            replace hS := hS.alloc (.cells #[] 24)
            go_wp2_with (at_builtin; refine wpList_append_new rfl _ _ 35 rfl 24 ii (.int .u64 0) 8 Try.underlying35 hi hz hs1 hby rfl w3.heap.size hE rfl rfl hS ?c1 ?_)
            case c1 => omega
            intro A' c' w4 hq k4
            have hU : UR w4 w3.heap.size A' c' ws := (hq.bound).mono (fun i h => ⟨by have := h.1; omega, h.2⟩)
            replace h3 := h3.stay k4
            replace hS := hS.keep k4 (fun _ _ h => h)
            clear hq k4 hE kE
            generalize w3.heap.size = L at hU hL hH ⊢
            have hS' := hS
            obtain ⟨A9, c9, he9, _, hcc⟩ := hS'
            simp only [Value.slice.injEq, true_and] at he9
            obtain ⟨rfl, rfl⟩ := he9
            obtain ⟨b1, o1, rfl, hb1, hlt1, hcell1⟩ := hcc (by omega)
            have hsc := hcell1 (p + 2 + q) (by omega)
            rw [HY.out] at hsc
            clear hcell1 hcc
            obtain ⟨gg, off, rfl, hg1, hg2, hcell, hfz, hset⟩ := hU.write (i := p + 2 + q) (by omega)
            rw [HY.out] at hcell
            have hU2 := hset x
            clear hset
            have hfar := (Keep.refl (fun i => i = gg) w4).set_ (p := ⟨gg, off + (p + 2 + q), none⟩) (.inl rfl) (.int .u64 x)
            replace h3 : OAt w w.heap.size G (w4.setCell ⟨gg, off + (p + 2 + q), none⟩ (.int .u64 x)) b _ := ⟨h3.1.keep hfar (fun i h1 h2 => by have := h1.2; omega), h3.2.1.set_ (p := ⟨gg, off + (p + 2 + q), none⟩) (.inr (by simp; omega)) _, h3.2.2.1, by simpa [World.setCell] using h3.2.2.2⟩
            clear hfar hU hS
            generalize hws2 : ws.set (p + 2 + q) x = ws2 at h3 hU2
            have hl2 : ws2.length = ws.length := by rw [← hws2, List.length_set]
            have hwb2 : ∀ i : Nat, w64 (ws2[i]?.getD 0) := h3.1.2
            have HWB2 := Lib.hid hwb2
            clear hwb2 hws2
            go_wp2_with fail
            generalize w4.setCell ⟨gg, off + (p + 2 + q), none⟩ (.int .u64 x) = w5 at h3 hU2 ⊢
            clear hcell hfz hsc
            have hin : inn ws2 ((p : Int) + 1) = true := inn_of (by omega) (by omega)
            have hok : okAt (p : Int) = true := by simp [okAt]; omega
            have HIN2 := Lib.hid hin
            have HOK := Lib.hid hok
            clear hin hok
            generalize hzz : ws2[p + 1]?.getD 0 = z
            have HZ := Lib.hid hzz
            have hz64 : w64 z := hzz ▸ HWB2.out (p + 1)
            have hback : IntKind.u64.wrap (wrap64 z) = z := wrap_back hz64
            generalize hyw : wrap64 z = yw at hback
            have HYW := Lib.hid hyw
            clear hzz hz64 hyw
            go_wp2_with fail
            refine (Way_at (p : Int) h3 yw 0 (by rw [HOK.out, if_pos rfl]; unfold ldW; rw [HIN2.out, if_pos rfl, show ((p : Int) + 1).toNat = p + 1 by omega, HZ.out, HYW.out]) (by rw [HOK.out, if_pos rfl]; unfold erW; rw [HIN2.out]; rfl)).mono ?_
            rintro e w6 ⟨rfl, h6, k⟩
            replace hU2 := hU2.keep k (fun i h1 h2 => by first | omega | (obtain ⟨h3, h4⟩ := h1; obtain ⟨h5, h6⟩ := h2; omega))
            clear k
            clear h3
            go_wp2_with fail
            refine (SetWay_at (p : Int) 5 h6 0 (ws2.set (p + 1) 5) (by rw [HOK.out, if_pos rfl]; unfold erW; rw [HIN2.out]; rfl) (by rw [HOK.out, if_pos rfl]; unfold stW; rw [HIN2.out, if_pos rfl, show ((p : Int) + 1).toNat = p + 1 by omega]; rfl)).mono ?_
            rintro e w7 ⟨rfl, h7, k⟩
            replace hU2 := hU2.keep k (fun i h1 h2 => by first | omega | (obtain ⟨h3, h4⟩ := h1; obtain ⟨h5, h6⟩ := h2; omega))
            clear k
            clear h6
            obtain ⟨hcell, hfz, hset⟩ := hU2.at_ (i := p + 1) (by omega)
            have hg12 := hg1
            rw [HZ.out] at hcell
            have hU3 := hset 5
            clear hset
            have hfar := (Keep.refl (fun i => i = gg) w7).set_ (p := ⟨gg, off + (p + 1), none⟩) (.inl rfl) (.int .u64 5)
            replace h7 : OAt w w.heap.size G (w7.setCell ⟨gg, off + (p + 1), none⟩ (.int .u64 5)) b _ := ⟨h7.1.keep hfar (fun i h1 h2 => by have := h1.2; omega), h7.2.1.set_ (p := ⟨gg, off + (p + 1), none⟩) (.inr (by simp; omega)) _, h7.2.2.1, by simpa [World.setCell] using h7.2.2.2⟩
            clear hfar hU2
            generalize hws3 : ws2.set (p + 1) 5 = ws3 at h7 hU3
            have hl3 : ws3.length = ws.length := by rw [← hws3, List.length_set] <;> exact hl2
            clear hws3
            go_wp2_with fail
            generalize w7.setCell ⟨gg, off + (p + 1), none⟩ (.int .u64 5) = w8 at h7 hU3 ⊢
            clear hcell hfz hback
            refine (awake_calls _).mono ?_
            rintro e w10 ⟨rfl, k⟩
            replace h7 := h7.stay k
            replace hU3 := hU3.keep k (fun _ _ h => h)
            clear k
            go_wp2_with fail
            refine (words_at h7 (by omega)).mono ?_
            rintro e w11 ⟨v11, rfl, hv11, h11, k⟩
            replace hU3 := hU3.keep k (fun i h1 h2 => by first | omega | (obtain ⟨h3, h4⟩ := h1; obtain ⟨h5, h6⟩ := h2; omega))
            clear k h7
            have hSL := hU3.sl
            rw [hl3] at hSL
            go_wp2_with fail
            refine (same_r _ hv11 hSL rfl).mono ?_
            rintro e w12 ⟨rfl, nn, hw12⟩
            have hh : OAt w w.heap.size G w12 b ws3 := by rw [hw12]; exact h11.drewN nn
            clear hw12 h11 hv11 hSL hU3
            go_wp2_with fail
            go_ret
            exact ⟨by simp, hh.below⟩
end Go.Proofs.Ytfaffpmmjlddeaa.Ob
