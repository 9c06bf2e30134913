/- BumpRows as a contract. Condition: the list reads as a list of small numbers. -/
import Derived.Test.YtoalianiedjoaaaBumpAt
set_option linter.unusedVariables false
set_option linter.unusedSimpArgs false
namespace Go.Proofs.Ytoalianiedjoaaa.Bp
open Go.RowKit Go.Proofs.Ytoalianiedjoaaa.W Go.Proofs.Ytoalianiedjoaaa.Sm

set_option maxHeartbeats 4000000 in
theorem Rows_calls {v1 : Value} {l1 : List Int} (n : Int) (w : World) (n0 : 0 ≤ n) (n1 : n ≤ 65535) (g1 : SL w (fun i => i < w.heap.size) .u8 v1 l1) (q1 : ∀ x ∈ l1, 0 ≤ x ∧ x ≤ 255) :
    Calls Try.prog 4 #[.int .u16 n, v1] w fun e w' => e = .returned (.bool true) ∧ Below w.heap.size w w' := by
  obtain ⟨A1, c1, rfl, hm1, hc1⟩ := g1
  have HC1 := Lib.hid hc1
  clear hc1
  have Q1 := Lib.hid q1
  clear q1
  go_enter Try.func4, Try.ntmps4
  go_wp2_with fail
  refine (New_at 5 n w).mono ?_
  rintro e w1 ⟨b, rfl, h⟩
  rw [clampN_id (n := 5) (by omega) (by omega), clampN_id (n := n) (by omega) (by omega)] at h
  go_wp2_with fail
  go_loopw [6, 7] (fun x i wr => ∃ (k : Nat) (u : Int), k ≤ 100 ∧ k ≤ l1.length ∧ i = .int .i64 k ∧ x = .int .i64 (5 + u) ∧ 0 ≤ u ∧ u ≤ n ∧ At w wr b ⟨5, u, 5 + n, 0, n, false⟩) (fun x i _ => 100 - (intOf i).toNat)
  case atStart => exact ⟨0, 0, by omega, by omega, rfl, rfl, by omega, by omega, h⟩
  case round =>
    clear h
    obtain ⟨k, u, hk, hkl, rfl, rfl, hu0, hu1, hr⟩ := hrel
    by_cases hc : k < l1.length ∧ k < 100
    · obtain ⟨hl1, hl2⟩ := hc
      obtain ⟨b1, o1, rfl, hb1, hlt1, hcell1⟩ := HC1.out (by omega)
      have q1 : wr.cell? ⟨b1, o1 + k, none⟩ = some (.int .u8 (l1[k]?.getD 0)) := (World.cell?_of_block (hr.block b1 hlt1)).trans (hcell1 k hl1)
      have hz := Q1.out (l1[k]?.getD 0) (by simp [hl1])
      obtain ⟨z, hzz⟩ : ∃ z, l1[k]?.getD 0 = z := ⟨_, rfl⟩
      rw [hzz] at q1 hz
      obtain ⟨z0, z1⟩ := hz
      have qq : ∀ w' : World, At w w' b ⟨5, u + z, 5 + n, 0, n, false⟩ → w'.cell? ⟨b1, o1 + k, none⟩ = some (.int .u8 z) := fun w' h' => by
        rw [← hzz]; exact (World.cell?_of_block (h'.block b1 hlt1)).trans (hcell1 k hl1)
      have HQ := Lib.hid qq
      clear qq hzz hcell1
      go_wp2_with fail
      refine (Take_at z hr).mono ?_
      rintro e w3 ⟨rfl, h3⟩
      by_cases hf : 1 ≤ z ∧ z ≤ n - u
      · obtain ⟨hf0, hf1⟩ := hf
        have fx : Sp.fits ⟨5, u, 5 + n, 0, n, false⟩ z = true := by simp [Sp.fits, Sp.room, Sp.used]; omega
        rw [Sp.take, fx, if_pos rfl, if_neg (by simp)] at h3
        rw [fx, if_pos rfl, show Sp.here ⟨5, u, 5 + n, 0, n, false⟩ + Sp.used ⟨5, u, 5 + n, 0, n, false⟩ = 5 + u from rfl]
        clear fx q1 hr
        have hne : (5 + u != 5 + u) = false := by simp
        go_wp2_with fail
        refine (In_at (5 + u) h3 (by omega)).mono ?_
        rintro e w4 ⟨rfl, h4⟩
        rw [show Sp.isIn ⟨5, u + z, 5 + n, 0, n, false⟩ (5 + u) = true from by simp [Sp.isIn, Sp.here, Sp.used]; omega]
        go_wp2_with fail
        refine (From_at (5 + u) h4 (by omega)).mono ?_
        rintro e w5 ⟨rfl, h5⟩
        rw [show Sp.isFrom ⟨5, u + z, 5 + n, 0, n, false⟩ (5 + u) = false from by simp [Sp.isFrom, Sp.there, Sp.left]]
        have q5 := HQ.out w5 h5
        clear h3 h4
        go_wp2_with fail
        go_roundw
        case rel => exact ⟨k + 1, u + z, by omega, by omega, by go_num, by go_num, by omega, by omega, h5⟩
        case measure => simp [intOf]; omega
      · have fx : Sp.fits ⟨5, u, 5 + n, 0, n, false⟩ z = false := by simp [Sp.fits, Sp.room, Sp.used]; omega
        rw [Sp.take, fx, if_neg (by simp)] at h3
        rw [fx, if_neg (by simp)]
        clear fx
        go_wp2_with fail
        go_roundw
        case rel => exact ⟨k + 1, u, by omega, by omega, by go_num, rfl, by omega, by omega, h3⟩
        case measure => simp [intOf]; omega
    · rcases (by omega : ¬ k < l1.length ∨ (k < l1.length ∧ ¬ k < 100)) with hx | ⟨hx, hx'⟩
      all_goals
        clear hc
        go_wp2_with fail
        refine (Flip_at hr).mono ?_
        rintro e w3 ⟨rfl, h3⟩
        rw [show decide (Sp.left ⟨5, u, 5 + n, 0, n, false⟩ ≤ 0) = true from by simp [Sp.left]]
        rw [show Sp.flip ⟨5, u, 5 + n, 0, n, false⟩ = ⟨5, u, 5 + n, 0, n, true⟩ from by simp [Sp.flip, Sp.left]] at h3
        clear hr
        go_wp2_with fail
        obtain ⟨wo, ho⟩ : ∃ wo : World, wo = wr := ⟨_, rfl⟩
        clear ho
        go_loopw [10] (fun i wr => ∃ j : Nat, (j : Int) ≤ u + 7 ∧ i = .int .i64 (5 + (j : Int)) ∧ At w wr b ⟨5, u, 5 + n, 0, n, true⟩) (fun i _ => (5 + u + 7 - intOf i).toNat)
        case atStart => exact ⟨0, by omega, rfl, h3⟩
        case round =>
          clear h3
          obtain ⟨j, hj, rfl, hr⟩ := hrel
          by_cases hlt : (j : Int) < u
          · go_wp2_with fail
            refine (In_at (5 + (j : Int)) hr (by omega)).mono ?_
            rintro e w4 ⟨rfl, h4⟩
            rw [show Sp.isIn ⟨5, u, 5 + n, 0, n, true⟩ (5 + (j : Int)) = false from by simp [Sp.isIn, Sp.here, Sp.used]; try omega]
            go_wp2_with fail
            refine (From_at (5 + (j : Int)) h4 (by omega)).mono ?_
            rintro e w5 ⟨rfl, h5⟩
            rw [show Sp.isFrom ⟨5, u, 5 + n, 0, n, true⟩ (5 + (j : Int)) = true from by simp [Sp.isFrom, Sp.there, Sp.left]; omega]
            go_wp2_with fail
            go_roundw
            case rel => exact ⟨j + 7, by omega, by go_num, h5⟩
            case measure => simp [intOf]; omega
          · go_wp2_with fail
            refine (awake_at hr).mono ?_
            rintro e w4 ⟨rfl, h4⟩
            go_wp2_with fail
            refine (Used_at h4).mono ?_
            rintro e w5 ⟨rfl, h5⟩
            rw [show Sp.used ⟨5, u, 5 + n, 0, n, true⟩ = 0 from rfl]
            go_wp2_with fail
            refine (Left_at h5).mono ?_
            rintro e w6 ⟨rfl, h6⟩
            rw [show Sp.left ⟨5, u, 5 + n, 0, n, true⟩ = u from rfl]
            have hu5 : 5 + u - 5 = u := by omega
            go_wp2_with fail
            go_ret
            exact ⟨by simp [hu5], h6.below⟩
end Go.Proofs.Ytoalianiedjoaaa.Bp
