/- ArenaApart as a contract. No condition. -/
import Derived.Test.YtfaffpmmjlddeaaArenaLaws
set_option linter.unusedVariables false
set_option linter.unusedSimpArgs false
namespace Go.Proofs.Ytfaffpmmjlddeaa.Ar
open Go.RowKit Go.Proofs.Ytfaffpmmjlddeaa.W

set_option maxRecDepth 20000 in
set_option maxHeartbeats 4000000 in
theorem Apart_calls (n a x : Int) (w : World) (n0 : 0 ≤ n) (n1 : n ≤ 255) (a0 : 0 ≤ a) (a1 : a ≤ 255) :
    Calls Try.prog 4 #[.int .u8 n, .int .u8 a, .int .u64 x] w fun e w' => e = .returned (.bool true) ∧ Below w.heap.size w w' := by
  have b0 : 0 ≤ n % 60 := by omega
  have b1 : n % 60 < 60 := by omega
  have d0 : 0 ≤ a % (n % 60 + 1) := Int.emod_nonneg _ (by omega)
  have d1 : a % (n % 60 + 1) < n % 60 + 1 := Int.emod_lt_of_pos _ (by omega)
  go_enter Try.func4, Try.ntmps4
  go_wp2_with fail
  generalize a % (n % 60 + 1) = kk at d0 d1 ⊢
  generalize n % 60 = s at b0 b1 d1 ⊢
  obtain ⟨S, rfl⟩ : ∃ S : Nat, s = (S : Int) := ⟨s.toNat, by omega⟩
  obtain ⟨K, rfl⟩ : ∃ S : Nat, kk = (S : Int) := ⟨kk.toNat, by omega⟩
  refine (New_at ((S : Int) + 1) w).mono ?_
  rintro e w0 ⟨b, rfl, h0⟩
  rw [clampN_id (n := (S : Int) + 1) (by omega) (by omega), show ((S : Int) + 1).toNat = S + 1 by omega] at h0
  have hK : K < S + 1 := by omega
  go_wp2_with fail
  go_loopw [10] (fun i wr => ∃ (j : Nat) (ws : List Int) (c : Int), j ≤ S + 1 ∧ i = .int .i64 j ∧ ws.length = S + 1 ∧ (∀ y, y < j → ws[y]?.getD 0 = (y : Int) * 3) ∧ At w wr b ws c) (fun i _ => S + 1 - (intOf i).toNat)
  case atStart => exact ⟨0, _, 0, by omega, rfl, by simp, fun y hy => by omega, h0⟩
  case round =>
    clear h0
    obtain ⟨j, ws, c, hj, rfl, hl, hv, hr⟩ := hrel
    have HV := Lib.hid hv
    have HL := Lib.hid hl
    clear hv hl
    by_cases hlt : j < S + 1
    · go_wp2_with fail
      refine (Store_yes (j : Int) ((j : Int) * 3) hr (by rw [HL.out]; exact within_yes (by omega))).mono ?_
      rintro e w1 ⟨rfl, h1⟩
      rw [Int.toNat_natCast] at h1
      go_wp2_with fail
      go_roundw
      case rel =>
        refine ⟨j + 1, ws.set j ((j : Int) * 3), wrap64 (c + 1), by omega, by go_num, by rw [List.length_set]; exact HL.out, fun y hy => ?_, h1⟩
        by_cases hyj : y = j
        · subst hyj; rw [List.getElem?_set_self (by rw [HL.out]; omega)]; rfl
        · rw [List.getElem?_set_ne (by omega)]; exact HV.out y (by omega)
      case measure => simp [intOf]; omega
    · have hjS : j = S + 1 := by omega
      go_wp2_with fail
      refine (Store_yes (K : Int) x hr (by rw [HL.out]; exact within_yes (by omega))).mono ?_
      rintro e w1 ⟨rfl, h1⟩
      rw [Int.toNat_natCast] at h1
      have hl2 : (ws.set K x).length = S + 1 := by rw [List.length_set]; exact HL.out
      have hv2 : ∀ y, y < S + 1 → (ws.set K x)[y]?.getD 0 = if y = K then x else (y : Int) * 3 := fun y hy => by
        by_cases hyj : y = K
        · subst hyj; rw [List.getElem?_set_self (by rw [HL.out]; omega), if_pos rfl]; rfl
        · rw [List.getElem?_set_ne (by omega), if_neg hyj]; exact HV.out y (by omega)
      generalize ws.set K x = ws2 at h1 hl2 hv2
      have HL2 := Lib.hid hl2
      have HV2 := Lib.hid hv2
      clear hl2 hv2 hr hlt
      go_wp2_with fail
      obtain ⟨wo, ho⟩ : ∃ wo : World, wo = wr := ⟨_, rfl⟩
      clear ho
      go_loopw [11] (fun i wr => ∃ (j : Nat) (c : Int), j ≤ 2 * (S + 1) ∧ i = .int .i64 j ∧ At w wr b ws2 c) (fun i _ => 2 * (S + 1) - (intOf i).toNat)
      case atStart => exact ⟨0, _, by omega, rfl, h1⟩
      case round =>
        clear h1
        obtain ⟨m, c, hm, rfl, hr⟩ := hrel
        by_cases hlt : m < 2 * (S + 1)
        · obtain ⟨R, hR, hRS⟩ : ∃ R : Nat, (m : Int) % ((S : Int) + 1) = (R : Int) ∧ R < S + 1 := by
            have r0 := Int.emod_nonneg (m : Int) (by omega : (S : Int) + 1 ≠ 0)
            have r1 := Int.emod_lt_of_pos (m : Int) (by omega : (0 : Int) < (S : Int) + 1)
            exact ⟨((m : Int) % ((S : Int) + 1)).toNat, by omega, by omega⟩
          by_cases hRK : R = K
          · subst hRK
            go_wp2_with fail
            refine (Load_yes (R : Int) hr (by rw [HL2.out]; exact within_yes (by omega))).mono ?_
            rintro e w2 ⟨rfl, h2⟩
            rw [Int.toNat_natCast, HV2.out R hRS, if_pos rfl]
            go_wp2_with fail
            go_roundw
            case rel => exact ⟨m + 1, _, by omega, by go_num, h2⟩
            case measure => simp [intOf]; omega
          · have q1 : ((R : Int) == (K : Int)) = false := by simp; omega
            have q2 : ((R : Int) != (K : Int)) = true := by simp; omega
            go_wp2_with fail
            refine (Load_yes (R : Int) hr (by rw [HL2.out]; exact within_yes (by omega))).mono ?_
            rintro e w2 ⟨rfl, h2⟩
            rw [Int.toNat_natCast, HV2.out R hRS, if_neg hRK]
            go_wp2_with fail
            go_roundw
            case rel => exact ⟨m + 1, _, by omega, by go_num, h2⟩
            case measure => simp [intOf]; omega
        · go_wp2_with fail
          refine (awake_at hr).mono ?_
          rintro e w2 ⟨rfl, h2⟩
          go_wp2_with fail
          go_ret
          exact ⟨rfl, h2.below⟩
end Go.Proofs.Ytfaffpmmjlddeaa.Ar
