/- Laws of layer 2 as contracts: each returns true and leaves what was there as it was. No condition. -/
import Derived.Test.YtfaffpmmjlddeaaArena
set_option linter.unusedVariables false
set_option linter.unusedSimpArgs false
namespace Go.Proofs.Ytfaffpmmjlddeaa.Ar
open Go.RowKit Go.Proofs.Ytfaffpmmjlddeaa.W

def At (W w : World) (b : Nat) (ws : List Int) (n : Int) : Prop := ARep w (fun i => W.heap.size ≤ i) b ws n ∧ Keep (fun _ => False) W w
section
variable {W w : World} {b : Nat} {ws : List Int} {n : Int}
theorem At.go {w' : World} {ws' : List Int} {n' : Int} (h : At W w b ws n) (r : ARep w' (fun i => W.heap.size ≤ i) b ws' n') (k : Keep (fun i => W.heap.size ≤ i) w w') : At W w' b ws' n' :=
  ⟨r, h.2.trans k (fun i h => .inr h)⟩
theorem At.stay {w' : World} (h : At W w b ws n) (k : Keep (fun _ => False) w w') : At W w' b ws n := ⟨h.1.keep k (fun _ _ h => h), h.2.trans k (fun i h => .inl h)⟩
theorem At.drewN (h : At W w b ws n) (m : Nat) : At W (w.drewN m) b ws n := ⟨h.1.drewN m, h.2.drewN m⟩
theorem At.below (h : At W w b ws n) : Below W.heap.size W w := h.2.below (fun _ h => h.elim)
theorem At.block (h : At W w b ws n) (i : Nat) (hi : i < W.heap.size) : w.heap[i]? = W.heap[i]? := h.2.block i hi (fun h => h)
theorem New_at (n : Int) (w : World) : Calls Try.prog 13 #[.int .i64 n] w fun e w' => ∃ b, e = .returned (.pointer (some ⟨b, 0, none⟩)) ∧ At w w' b (List.replicate (clampN n).toNat 0) 0 :=
  (New_calls n w).mono fun e w' ⟨b, he, hr, hk⟩ => ⟨b, he, hr, hk⟩
theorem Len_at (h : At W w b ws n) : Calls Try.prog 16 #[.pointer (some ⟨b, 0, none⟩)] w fun e w' => e = .returned (.int .i64 ws.length) ∧ At W w' b ws n :=
  (Len_calls w h.1).mono fun e w' ⟨he, hw⟩ => ⟨he, hw ▸ h⟩
theorem Count_at (h : At W w b ws n) : Calls Try.prog 21 #[.pointer (some ⟨b, 0, none⟩)] w fun e w' => e = .returned (.int .i64 n) ∧ At W w' b ws n :=
  (Count_calls w h.1).mono fun e w' ⟨he, hw⟩ => ⟨he, hw ▸ h⟩
theorem Load_yes (a : Int) (h : At W w b ws n) (hw : within ws.length a 1 = true) : Calls Try.prog 14 #[.pointer (some ⟨b, 0, none⟩), .int .i64 a] w fun e w' =>
    e = .returned (.tuple #[.int .u64 (ws[a.toNat]?.getD 0), .int .i64 0]) ∧ At W w' b ws (wrap64 (n + 1)) :=
  (Load_calls a w h.1).mono fun e w' ⟨he, hr, hk⟩ => by
    rw [hw] at he hr
    exact ⟨he, h.go hr hk⟩
theorem Load_no (a : Int) (h : At W w b ws n) (hw : within ws.length a 1 = false) : Calls Try.prog 14 #[.pointer (some ⟨b, 0, none⟩), .int .i64 a] w fun e w' =>
    e = .returned (.tuple #[.int .u64 0, .int .i64 2]) ∧ At W w' b ws n :=
  (Load_calls a w h.1).mono fun e w' ⟨he, hr, hk⟩ => by
    rw [hw] at he hr
    exact ⟨he, h.go hr hk⟩
theorem Store_yes (a x : Int) (h : At W w b ws n) (hw : within ws.length a 1 = true) : Calls Try.prog 18 #[.pointer (some ⟨b, 0, none⟩), .int .i64 a, .int .u64 x] w fun e w' =>
    e = .returned (.int .i64 0) ∧ At W w' b (ws.set a.toNat x) (wrap64 (n + 1)) :=
  (Store_calls a x w h.1).mono fun e w' ⟨he, hr, hk⟩ => by
    rw [hw] at he hr
    exact ⟨he, h.go hr hk⟩
theorem Store_no (a x : Int) (h : At W w b ws n) (hw : within ws.length a 1 = false) : Calls Try.prog 18 #[.pointer (some ⟨b, 0, none⟩), .int .i64 a, .int .u64 x] w fun e w' =>
    e = .returned (.int .i64 2) ∧ At W w' b ws n :=
  (Store_calls a x w h.1).mono fun e w' ⟨he, hr, hk⟩ => by
    rw [hw] at he hr
    exact ⟨he, h.go hr hk⟩
theorem Copy_yes (a c k : Int) (h : At W w b ws n) (hw : (within ws.length a k && within ws.length c k) = true) : Calls Try.prog 17 #[.pointer (some ⟨b, 0, none⟩), .int .i64 a, .int .i64 c, .int .i64 k] w fun e w' =>
    e = .returned (.int .i64 0) ∧ At W w' b (cpy ws a.toNat c.toNat k.toNat) (wrap64 (n + 2 * k)) :=
  (Copy_calls a c k w h.1).mono fun e w' ⟨he, hr, hk⟩ => by
    rw [hw] at he hr
    exact ⟨he, h.go hr hk⟩
theorem Zero_yes (a k : Int) (h : At W w b ws n) (hw : within ws.length a k = true) : Calls Try.prog 20 #[.pointer (some ⟨b, 0, none⟩), .int .i64 a, .int .i64 k] w fun e w' =>
    e = .returned (.int .i64 0) ∧ At W w' b (zro ws a.toNat k.toNat) (wrap64 (n + k)) :=
  (Zero_calls a k w h.1).mono fun e w' ⟨he, hr, hk⟩ => by
    rw [hw] at he hr
    exact ⟨he, h.go hr hk⟩
end

theorem wrap_id {n : Int} (h0 : -9223372036854775808 ≤ n) (h1 : n ≤ 9223372036854775807) : wrap64 n = n := by unfold wrap64; omega

set_option maxRecDepth 20000 in
set_option maxHeartbeats 2000000 in
theorem awake_calls (w : World) : Calls Try.prog 15 #[] w fun e w' => e = .returned (.bool true) ∧ Keep (fun _ => False) w w' := by
  go_enter Try.func15, Try.ntmps15
  go_wp2_with fail
  refine (New_at 4 w).mono ?_
  rintro e w0 ⟨b, rfl, h0⟩
  replace h0 : At w w0 b [0, 0, 0, 0] 0 := h0
  go_wp2_with fail
  refine (Store_yes 1 7 h0 (by decide)).mono ?_
  rintro e w1 ⟨rfl, h1⟩
  rw [wrap_id (n := 0 + 1) (by omega) (by omega)] at h1
  replace h1 : At w w1 b [0, 7, 0, 0] 1 := h1
  go_wp2_with fail
  refine (Copy_yes 0 1 3 h1 (by decide)).mono ?_
  rintro e w2 ⟨rfl, h2⟩
  rw [wrap_id (n := 1 + 2 * 3) (by omega) (by omega)] at h2
  replace h2 : At w w2 b [0, 0, 7, 0] 7 := h2
  clear h0 h1
  go_wp2_with fail
  refine (Load_yes 2 h2 (by decide)).mono ?_
  rintro e w3 ⟨rfl, h3⟩
  rw [wrap_id (n := 7 + 1) (by omega) (by omega)] at h3
  replace h3 : At w w3 b [0, 0, 7, 0] 8 := h3
  rw [show (([0, 0, 7, 0] : List Int)[(2 : Int).toNat]?.getD 0) = 7 from rfl]
  go_wp2_with fail
  refine (Count_at h3).mono ?_
  rintro e w4 ⟨rfl, h4⟩
  go_wp2_with fail
  refine (Store_no 4 1 h4 (by decide)).mono ?_
  rintro e w5 ⟨rfl, h5⟩
  go_wp2_with fail
  go_ret
  exact ⟨rfl, h5.2⟩
theorem awake_at {W w : World} {b : Nat} {ws : List Int} {n : Int} (h : At W w b ws n) : Calls Try.prog 15 #[] w fun e w' => e = .returned (.bool true) ∧ At W w' b ws n :=
  (awake_calls w).mono fun e w' ⟨he, hk⟩ => ⟨he, h.stay hk⟩

theorem has_nil (a k : Int) (w : World) : Calls Try.prog 37 #[.pointer none, .int .i64 a, .int .i64 k] w fun e w' => e = .returned (.bool (within 0 a k)) ∧ w = w' := by
  have hlen : ∀ w, Calls Try.prog 16 #[.pointer none] w fun e w' => e = .returned (.int .i64 0) ∧ w = w' := fun w => by
    go_enter Try.func16, Try.ntmps16
    go_wp2
    go_ret
    exact ⟨rfl, rfl⟩
  rcases (by omega : a < 0 ∨ (0 ≤ a ∧ k < 0) ∨ (0 ≤ a ∧ 0 ≤ k ∧ (0 : Int) < a) ∨ (a = 0 ∧ 0 ≤ k ∧ (0 : Int) < k) ∨ (a = 0 ∧ k = 0)) with hx | ⟨hx, hy⟩ | ⟨hx, hy, hz⟩ | ⟨rfl, hy, hz⟩ | ⟨rfl, rfl⟩
  · rw [within_not (by omega)]
    go_enter Try.func37, Try.ntmps37
    go_wp2_with fail
    go_ret
    first | exact ⟨rfl, rfl⟩ | exact ⟨by simp; omega, rfl⟩
  · rw [within_not (by omega)]
    go_enter Try.func37, Try.ntmps37
    go_wp2_with fail
    go_ret
    first | exact ⟨rfl, rfl⟩ | exact ⟨by simp; omega, rfl⟩
  · rw [within_not (by omega)]
    go_enter Try.func37, Try.ntmps37
    go_wp2_with fail
    refine (hlen w).mono ?_
    rintro e w1 ⟨rfl, rfl⟩
    go_wp2_with fail
    go_ret
    first | exact ⟨rfl, rfl⟩ | exact ⟨by simp; omega, rfl⟩
  · rw [within_not (by omega)]
    go_enter Try.func37, Try.ntmps37
    go_wp2_with fail
    refine (hlen w).mono ?_
    rintro e w1 ⟨rfl, rfl⟩
    go_wp2_with fail
    refine (hlen w).mono ?_
    rintro e w1 ⟨rfl, rfl⟩
    go_wp2_with fail
    go_ret
    first | exact ⟨rfl, rfl⟩ | exact ⟨by simp; omega, rfl⟩
  · rw [within_yes (by omega)]
    go_enter Try.func37, Try.ntmps37
    go_wp2_with fail
    refine (hlen w).mono ?_
    rintro e w1 ⟨rfl, rfl⟩
    go_wp2_with fail
    refine (hlen w).mono ?_
    rintro e w1 ⟨rfl, rfl⟩
    go_wp2_with fail
    go_ret
    first | exact ⟨rfl, rfl⟩ | exact ⟨by simp; omega, rfl⟩
theorem Load_nil (a : Int) (w : World) : Calls Try.prog 14 #[.pointer none, .int .i64 a] w fun e w' => e = .returned (.tuple #[.int .u64 0, .int .i64 2]) ∧ w = w' := by
  go_enter Try.func14, Try.ntmps14
  go_wp2_with fail
  refine (has_nil a 1 w).mono ?_
  rintro e w1 ⟨rfl, rfl⟩
  rw [within_not (by omega)]
  go_wp2_with fail
  go_ret2
  exact ⟨rfl, rfl⟩
theorem Store_nil (a x : Int) (w : World) : Calls Try.prog 18 #[.pointer none, .int .i64 a, .int .u64 x] w fun e w' => e = .returned (.int .i64 2) ∧ w = w' := by
  go_enter Try.func18, Try.ntmps18
  go_wp2_with fail
  refine (has_nil a 1 w).mono ?_
  rintro e w1 ⟨rfl, rfl⟩
  rw [within_not (by omega)]
  go_wp2_with fail
  go_ret
  exact ⟨rfl, rfl⟩
set_option maxRecDepth 20000 in
set_option maxHeartbeats 2000000 in
theorem None_calls (a n x : Int) (w : World) : Calls Try.prog 6 #[.int .i64 a, .int .i64 n, .int .u64 x] w fun e w' => e = .returned (.bool true) ∧ Below w.heap.size w w' := by
  go_enter Try.func6, Try.ntmps6
  go_wp2_with (first | (go_at_call 15; refine (awake_calls _).mono ?_; rintro e w1 ⟨rfl, k1⟩) | (go_at_call 14; refine (Load_nil _ _).mono ?_; rintro e w2 ⟨rfl, rfl⟩) | (go_at_call 18; refine (Store_nil _ _ _).mono ?_; rintro e w2 ⟨rfl, rfl⟩) | go_in | (go_quiet (fail)))
  all_goals
    go_ret
    first | exact ⟨rfl, (k1.drewN _).below (fun i h => h.elim)⟩ | exact ⟨rfl, k1.below (fun i h => h.elim)⟩

set_option maxRecDepth 20000 in
set_option maxHeartbeats 2000000 in
theorem Sizes_calls (n : Int) (w : World) : Calls Try.prog 3 #[.int .i64 n] w fun e w' => e = .returned (.bool true) ∧ Below w.heap.size w w' := by
  obtain ⟨D, hD⟩ : ∃ D : Nat, (clampN n).toNat = D := ⟨_, rfl⟩
  rcases (by omega : n < 0 ∨ n = 0 ∨ 1048576 < n ∨ (0 < n ∧ n ≤ 1048576)) with hx | hx | hx | ⟨hx, hy⟩
  · have hE : (D : Int) = 0 := by rw [← hD]; unfold clampN; rw [if_pos hx]; rfl
    have HD := Lib.hid hD
    have HE := Lib.hid hE
    have HW : Hid (within (D : Int) (0) 1 = false) := Lib.hid (within_not (by omega))
    have HX : Hid (within (D : Int) (0 - 1) 1 = false) := Lib.hid (within_not (by omega))
    have HC : Hid ((within (D : Int) 0 (0) && within (D : Int) 0 (0)) = true) := Lib.hid (by rw [within_yes (by omega)]; rfl)
    clear hD hE
    go_enter Try.func3, Try.ntmps3
    go_wp2_with fail
    refine (New_at n w).mono ?_
    rintro e w0 ⟨b, rfl, h0⟩
    rw [HD.out] at h0
    go_wp2_with fail
    refine (Load_no (0) h0 (by rw [List.length_replicate]; exact HW.out)).mono ?_
    rintro e w1 ⟨rfl, h1⟩
    go_wp2_with fail
    refine (Load_no (-1) h1 (by rw [List.length_replicate]; exact HX.out)).mono ?_
    rintro e w2 ⟨rfl, h2⟩
    clear h0 h1
    go_wp2_with fail
    refine (awake_at h2).mono ?_
    rintro e w3 ⟨rfl, h3⟩
    go_wp2_with fail
    refine (Len_at h3).mono ?_
    rintro e w4 ⟨rfl, h4⟩
    rw [List.length_replicate, HE.out]
    clear h2 h3
    go_wp2_with fail
    refine (Copy_yes 0 0 (0) h4 (by rw [List.length_replicate]; exact HC.out)).mono ?_
    rintro e w5 ⟨rfl, h5⟩
    go_wp2_with fail
    go_ret
    first | exact ⟨rfl, h5.below⟩ | exact ⟨by simp, h5.below⟩ | exact ⟨by simp; omega, h5.below⟩
  · subst hx
    have hE : (D : Int) = 0 := by rw [← hD]; rfl
    have HD := Lib.hid hD
    have HE := Lib.hid hE
    have HW : Hid (within (D : Int) (0) 1 = false) := Lib.hid (within_not (by omega))
    have HX : Hid (within (D : Int) (0 - 1) 1 = false) := Lib.hid (within_not (by omega))
    have HC : Hid ((within (D : Int) 0 (0) && within (D : Int) 0 (0)) = true) := Lib.hid (by rw [within_yes (by omega)]; rfl)
    clear hD hE
    go_enter Try.func3, Try.ntmps3
    go_wp2_with fail
    refine (New_at 0 w).mono ?_
    rintro e w0 ⟨b, rfl, h0⟩
    rw [HD.out] at h0
    go_wp2_with fail
    refine (Load_no (0) h0 (by rw [List.length_replicate]; exact HW.out)).mono ?_
    rintro e w1 ⟨rfl, h1⟩
    go_wp2_with fail
    refine (Load_no (-1) h1 (by rw [List.length_replicate]; exact HX.out)).mono ?_
    rintro e w2 ⟨rfl, h2⟩
    clear h0 h1
    go_wp2_with fail
    refine (awake_at h2).mono ?_
    rintro e w3 ⟨rfl, h3⟩
    go_wp2_with fail
    refine (Len_at h3).mono ?_
    rintro e w4 ⟨rfl, h4⟩
    rw [List.length_replicate, HE.out]
    clear h2 h3
    go_wp2_with fail
    refine (Copy_yes 0 0 (0) h4 (by rw [List.length_replicate]; exact HC.out)).mono ?_
    rintro e w5 ⟨rfl, h5⟩
    go_wp2_with fail
    go_ret
    first | exact ⟨rfl, h5.below⟩ | exact ⟨by simp, h5.below⟩ | exact ⟨by simp; omega, h5.below⟩
  · have hE : (D : Int) = 1048576 := by rw [← hD]; unfold clampN; rw [if_neg (by omega), if_pos hx]; rfl
    have HD := Lib.hid hD
    have HE := Lib.hid hE
    have HW : Hid (within (D : Int) (1048576) 1 = false) := Lib.hid (within_not (by omega))
    have HX : Hid (within (D : Int) (1048576 - 1) 1 = true) := Lib.hid (within_yes (by omega))
    have HC : Hid ((within (D : Int) 0 (1048576) && within (D : Int) 0 (1048576)) = true) := Lib.hid (by rw [within_yes (by omega)]; rfl)
    clear hD hE
    go_enter Try.func3, Try.ntmps3
    go_wp2_with fail
    refine (New_at n w).mono ?_
    rintro e w0 ⟨b, rfl, h0⟩
    rw [HD.out] at h0
    go_wp2_with fail
    refine (Load_no (1048576) h0 (by rw [List.length_replicate]; exact HW.out)).mono ?_
    rintro e w1 ⟨rfl, h1⟩
    go_wp2_with fail
    refine (Load_yes (1048575) h1 (by rw [List.length_replicate]; exact HX.out)).mono ?_
    rintro e w2 ⟨rfl, h2⟩
    clear h0 h1
    go_wp2_with fail
    refine (awake_at h2).mono ?_
    rintro e w3 ⟨rfl, h3⟩
    go_wp2_with fail
    refine (Len_at h3).mono ?_
    rintro e w4 ⟨rfl, h4⟩
    rw [List.length_replicate, HE.out]
    clear h2 h3
    go_wp2_with fail
    refine (Copy_yes 0 0 (1048576) h4 (by rw [List.length_replicate]; exact HC.out)).mono ?_
    rintro e w5 ⟨rfl, h5⟩
    go_wp2_with fail
    go_ret
    first | exact ⟨rfl, h5.below⟩ | exact ⟨by simp, h5.below⟩ | exact ⟨by simp; omega, h5.below⟩
  · have hE : (D : Int) = n := by rw [← hD, clampN_id (by omega) hy]; omega
    have HD := Lib.hid hD
    have HE := Lib.hid hE
    have HW : Hid (within (D : Int) (n) 1 = false) := Lib.hid (within_not (by omega))
    have HX : Hid (within (D : Int) (n - 1) 1 = true) := Lib.hid (within_yes (by omega))
    have HC : Hid ((within (D : Int) 0 (n) && within (D : Int) 0 (n)) = true) := Lib.hid (by rw [within_yes (by omega)]; rfl)
    clear hD hE
    go_enter Try.func3, Try.ntmps3
    go_wp2_with fail
    refine (New_at n w).mono ?_
    rintro e w0 ⟨b, rfl, h0⟩
    rw [HD.out] at h0
    go_wp2_with fail
    refine (Load_no (n) h0 (by rw [List.length_replicate]; exact HW.out)).mono ?_
    rintro e w1 ⟨rfl, h1⟩
    go_wp2_with fail
    refine (Load_yes (n - 1) h1 (by rw [List.length_replicate]; exact HX.out)).mono ?_
    rintro e w2 ⟨rfl, h2⟩
    clear h0 h1
    go_wp2_with fail
    refine (awake_at h2).mono ?_
    rintro e w3 ⟨rfl, h3⟩
    go_wp2_with fail
    refine (Len_at h3).mono ?_
    rintro e w4 ⟨rfl, h4⟩
    rw [List.length_replicate, HE.out]
    clear h2 h3
    go_wp2_with fail
    refine (Copy_yes 0 0 (n) h4 (by rw [List.length_replicate]; exact HC.out)).mono ?_
    rintro e w5 ⟨rfl, h5⟩
    go_wp2_with fail
    go_ret
    first | exact ⟨rfl, h5.below⟩ | exact ⟨by simp, h5.below⟩ | exact ⟨by simp; omega, h5.below⟩
end Go.Proofs.Ytfaffpmmjlddeaa.Ar

