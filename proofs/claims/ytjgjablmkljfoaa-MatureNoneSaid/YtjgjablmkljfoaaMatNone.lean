/- MatureNone as a contract. No condition. -/
import Derived.Test.YtjgjablmkljfoaaMatAwake
set_option linter.unusedVariables false
set_option linter.unusedSimpArgs false
namespace Go.Proofs.Ytjgjablmkljfoaa.Ma
open Go.RowKit Go.Proofs.Ytjgjablmkljfoaa.W Go.Proofs.Ytjgjablmkljfoaa.Cl
theorem awake_at {W w : World} (h : SepO W (fun _ => False) w []) : Calls Try.prog 12 #[] w fun e w' => e = .returned (.bool true) ∧ SepO W (fun _ => False) w' [] := by
  refine (awake_calls w).mono ?_
  rintro e w' ⟨he, h'⟩
  obtain ⟨_, hk, _⟩ := h'
  exact ⟨he, h.stay hk⟩
set_option maxRecDepth 20000 in
set_option maxHeartbeats 2000000 in
theorem None_calls (a0 : Int) (w : World) : Calls Try.prog 7 #[.int .i64 a0] w fun e w' => e = .returned (.bool true) ∧ Below w.heap.size w w' := by
  have h := Sep.nil w
  go_enter Try.func7, Try.ntmps7
  go_wp2_with fail
  refine (Pend_nil 0 0 _).mono ?_
  rintro e w1 ⟨rfl, k1, rfl⟩
  replace h := h.drewN k1
  generalize w.drewN k1 = v1 at h ⊢
  go_wp2_with fail
  refine (Take_nil a0 0 _).mono ?_
  rintro e w1 ⟨rfl, k1, rfl⟩
  replace h := h.drewN k1
  generalize v1.drewN k1 = v2 at h ⊢
  go_wp2_with fail
  refine (Size_nil a0 _).mono ?_
  rintro e w1 ⟨rfl, k1, rfl⟩
  replace h := h.drewN k1
  generalize v2.drewN k1 = v3 at h ⊢
  go_wp2_with fail
  refine (Pending_nil 0 0 _).mono ?_
  rintro e w1 ⟨rfl, k1, rfl⟩
  replace h := h.drewN k1
  generalize v3.drewN k1 = v4 at h ⊢
  go_wp2_with fail
  refine (Page_nil a0 0 _).mono ?_
  rintro e w1 ⟨rfl, k1, rfl⟩
  replace h := h.drewN k1
  generalize v4.drewN k1 = v5 at h ⊢
  go_wp2_with fail
  refine (awake_at h).mono ?_
  rintro e v6 ⟨rfl, h6⟩
  clear h
  go_wp2_with fail
  refine (Give_nil a0 _).mono ?_
  rintro e w1 ⟨rfl, k1, rfl⟩
  replace h6 := h6.drewN k1
  generalize v6.drewN k1 = v7 at h6 ⊢
  go_wp2_with fail
  refine (Done_nil a0 0 _).mono ?_
  rintro e w1 ⟨rfl, k1, rfl⟩
  replace h6 := h6.drewN k1
  generalize v7.drewN k1 = v8 at h6 ⊢
  go_wp2_with fail
  refine (Starts_nil a0 a0 _).mono ?_
  rintro e w1 ⟨rfl, k1, rfl⟩
  replace h6 := h6.drewN k1
  generalize v8.drewN k1 = v9 at h6 ⊢
  go_wp2_with fail
  refine (Free_nil 0 0 _).mono ?_
  rintro e w1 ⟨rfl, k1, rfl⟩
  replace h6 := h6.drewN k1
  generalize v9.drewN k1 = v10 at h6 ⊢
  go_wp2_with fail
  refine (Used_nil 0 0 _).mono ?_
  rintro e w1 ⟨rfl, k1, rfl⟩
  replace h6 := h6.drewN k1
  generalize v10.drewN k1 = v11 at h6 ⊢
  go_wp2_with fail
  go_ret
  exact ⟨by simp, h6.below⟩
end Go.Proofs.Ytjgjablmkljfoaa.Ma
