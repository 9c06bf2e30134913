/- Laws of layer 6 as contracts: each returns true and leaves what was there as it was. Condition: an argument that is a slice reads as a list. -/
import Derived.Test.YtoalianiedjoaaaBump
import Derived.Test.YtoalianiedjoaaaCut
set_option linter.unusedVariables false
set_option linter.unusedSimpArgs false
namespace Go.Proofs.Ytoalianiedjoaaa.Bp
open Go.RowKit Go.Proofs.Ytoalianiedjoaaa.W Go.Proofs.Ytoalianiedjoaaa.Sm

set_option maxHeartbeats 2000000 in
theorem awake_calls (w : World) : Calls Try.prog 16 #[] w fun e w' => e = .returned (.bool true) ∧ Keep (fun _ => False) w w' := by
  go_enter Try.func16, Try.ntmps16
  go_wp2_with fail
  refine (New_calls 10 8 w).mono ?_
  rintro e w1 ⟨b, rfl, h1, k1⟩
  rw [show clampN 10 = 10 from by decide, show clampN 8 = 8 from by decide, show (10 : Int) + 8 = 18 from rfl] at h1
  go_wp2_with fail
  refine (Take_calls 3 w1 h1).mono ?_
  rintro e w2 ⟨rfl, h2, k2⟩
  rw [show Sp.fits ⟨10, 0, 18, 0, 8, false⟩ 3 = true from by decide, if_pos rfl, show Sp.here ⟨10, 0, 18, 0, 8, false⟩ + Sp.used ⟨10, 0, 18, 0, 8, false⟩ = 10 from by decide]
  rw [show Sp.take ⟨10, 0, 18, 0, 8, false⟩ 3 = ⟨10, 3, 18, 0, 8, false⟩ from rfl] at h2
  replace k2 := k1.trans k2 (fun i h => .inr h)
  go_wp2_with fail
  refine (Take_calls 5 w2 h2).mono ?_
  rintro e w3 ⟨rfl, h3, k3⟩
  rw [show Sp.fits ⟨10, 3, 18, 0, 8, false⟩ 5 = true from by decide, if_pos rfl, show Sp.here ⟨10, 3, 18, 0, 8, false⟩ + Sp.used ⟨10, 3, 18, 0, 8, false⟩ = 13 from by decide]
  rw [show Sp.take ⟨10, 3, 18, 0, 8, false⟩ 5 = ⟨10, 8, 18, 0, 8, false⟩ from rfl] at h3
  replace k3 := k2.trans k3 (fun i h => .inr h)
  go_wp2_with fail
  refine (Take_calls 1 w3 h3).mono ?_
  rintro e w4 ⟨rfl, h4, k4⟩
  rw [show Sp.fits ⟨10, 8, 18, 0, 8, false⟩ 1 = false from by decide, if_neg (by simp)]
  rw [show Sp.take ⟨10, 8, 18, 0, 8, false⟩ 1 = ⟨10, 8, 18, 0, 8, false⟩ from rfl] at h4
  replace k4 := k3.trans k4 (fun i h => .inr h)
  go_wp2_with fail
  refine (Flip_calls w4 h4).mono ?_
  rintro e w5 ⟨rfl, h5, k5⟩
  rw [show decide (Sp.left ⟨10, 8, 18, 0, 8, false⟩ ≤ 0) = true from by decide]
  rw [show Sp.flip ⟨10, 8, 18, 0, 8, false⟩ = ⟨10, 8, 18, 0, 8, true⟩ from rfl] at h5
  replace k5 := k4.trans k5 (fun i h => .inr h)
  go_wp2_with fail
  refine (Take_calls 2 w5 h5).mono ?_
  rintro e w6 ⟨rfl, h6, k6⟩
  rw [show Sp.fits ⟨10, 8, 18, 0, 8, true⟩ 2 = true from by decide, if_pos rfl, show Sp.here ⟨10, 8, 18, 0, 8, true⟩ + Sp.used ⟨10, 8, 18, 0, 8, true⟩ = 18 from by decide]
  rw [show Sp.take ⟨10, 8, 18, 0, 8, true⟩ 2 = ⟨10, 8, 18, 2, 8, true⟩ from rfl] at h6
  replace k6 := k5.trans k6 (fun i h => .inr h)
  clear h1 h2 h3 h4 h5 k1 k2 k3 k4 k5
  go_wp2_with fail
  refine (From_calls 17 w6 h6 (by omega)).mono ?_
  rintro e w7 ⟨rfl, k7⟩
  rw [show Sp.isFrom ⟨10, 8, 18, 2, 8, true⟩ 17 = true from by decide]
  replace h6 := h6.keep k7 (fun _ _ h => h)
  replace k7 := k6.trans k7 (fun i h => .inl h)
  go_wp2_with fail
  refine (In_calls 19 w7 h6 (by omega)).mono ?_
  rintro e w8 ⟨rfl, k8⟩
  rw [show Sp.isIn ⟨10, 8, 18, 2, 8, true⟩ 19 = true from by decide]
  replace h6 := h6.keep k8 (fun _ _ h => h)
  replace k8 := k7.trans k8 (fun i h => .inl h)
  go_wp2_with fail
  refine (In_calls 20 w8 h6 (by omega)).mono ?_
  rintro e w9 ⟨rfl, k9⟩
  rw [show Sp.isIn ⟨10, 8, 18, 2, 8, true⟩ 20 = false from by decide]
  replace h6 := h6.keep k9 (fun _ _ h => h)
  replace k9 := k8.trans k9 (fun i h => .inl h)
  clear k6 k7 k8
  go_wp2_with fail
  refine (Left_calls w9 h6).mono ?_
  rintro e w10 ⟨rfl, n1, rfl⟩
  rw [show Sp.left ⟨10, 8, 18, 2, 8, true⟩ = 8 from rfl]
  go_wp2_with fail
  refine (Room_calls _ (h6.drewN n1)).mono ?_
  rintro e w10 ⟨rfl, n2, rfl⟩
  rw [show Sp.room ⟨10, 8, 18, 2, 8, true⟩ = 6 from rfl]
  go_wp2_with fail
  refine (Flip_calls _ (h6.drewN _)).mono ?_
  rintro e w11 ⟨rfl, h7, k11⟩
  rw [show decide (Sp.left ⟨10, 8, 18, 2, 8, true⟩ ≤ 0) = false from by decide]
  rw [show Sp.flip ⟨10, 8, 18, 2, 8, true⟩ = ⟨10, 8, 18, 2, 8, true⟩ from rfl] at h7
  replace k11 := (k9.drewN _).trans k11 (fun i h => .inr h)
  clear h6 k9
  go_wp2_with fail
  refine (Drop_calls w11 h7).mono ?_
  rintro e w12 ⟨rfl, h8, k12⟩
  rw [show decide (0 < Sp.left ⟨10, 8, 18, 2, 8, true⟩) = true from by decide]
  rw [show Sp.drop ⟨10, 8, 18, 2, 8, true⟩ = ⟨10, 0, 18, 2, 8, true⟩ from rfl] at h8
  replace k12 := k11.trans k12 (fun i h => .inr h)
  go_wp2_with fail
  refine (Drop_calls w12 h8).mono ?_
  rintro e w13 ⟨rfl, h9, k13⟩
  rw [show decide (0 < Sp.left ⟨10, 0, 18, 2, 8, true⟩) = false from by decide]
  replace k13 := k12.trans k13 (fun i h => .inr h)
  go_wp2_with fail
  refine (Cut_calls 3 0 2 w13).mono ?_
  rintro e w14 ⟨rfl, rfl⟩
  rw [show cut 3 0 2 = 2 from by decide]
  go_wp2_with fail
  go_ret
  exact ⟨rfl, k13⟩

set_option maxHeartbeats 2000000 in
theorem None_calls (x : Int) (w : World) : Calls Try.prog 7 #[.int .i64 x] w fun e w' => e = .returned (.bool true) ∧ Below w.heap.size w w' := by
  go_enter Try.func7, Try.ntmps7
  go_wp2_with (first | (go_at_call 16; refine (awake_calls _).mono ?_; rintro e w1 ⟨rfl, k1⟩) | go_in | (go_quiet (fail)))
  all_goals
    go_ret
    first | exact ⟨rfl, (k1.drewN _).below (fun i h => h.elim)⟩ | exact ⟨rfl, k1.below (fun i h => h.elim)⟩
end Go.Proofs.Ytoalianiedjoaaa.Bp
