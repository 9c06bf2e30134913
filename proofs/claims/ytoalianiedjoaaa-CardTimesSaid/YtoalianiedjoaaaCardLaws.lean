/- Laws of layer 8 as contracts: each returns true and leaves what was there as it was. No condition. -/
import Derived.Test.YtoalianiedjoaaaCard
import Derived.Test.YtoalianiedjoaaaCut
set_option linter.unusedVariables false
set_option linter.unusedSimpArgs false
namespace Go.Proofs.Ytoalianiedjoaaa.Cd
open Go.RowKit Go.Proofs.Ytoalianiedjoaaa.W Go.Proofs.Ytoalianiedjoaaa.Sm

def At (W w : World) (b : Nat) (s : Cd) : Prop := CRep w (fun i => W.heap.size ≤ i) b s ∧ Keep (fun _ => False) W w
section
variable {W w : World} {b : Nat} {s : Cd}
theorem At.go {w' : World} {s' : Cd} (h : At W w b s) (r : CRep w' (fun i => W.heap.size ≤ i) b s') (k : Keep (fun i => W.heap.size ≤ i) w w') : At W w' b s' :=
  ⟨r, h.2.trans k (fun i h => .inr h)⟩
theorem At.stay {w' : World} (h : At W w b s) (k : Keep (fun _ => False) w w') : At W w' b s := ⟨h.1.keep k (fun _ _ h => h), h.2.trans k (fun i h => .inl h)⟩
theorem At.drewN (h : At W w b s) (n : Nat) : At W (w.drewN n) b s := ⟨h.1.drewN n, h.2.drewN n⟩
theorem At.below (h : At W w b s) : Below W.heap.size W w := h.2.below (fun _ h => h.elim)
theorem At.keep0 (h : At W w b s) : Keep (fun _ => False) W w := h.2
theorem At.block (h : At W w b s) (i : Nat) (hi : i < W.heap.size) : w.heap[i]? = W.heap[i]? := h.2.block i hi (fun h => h)
theorem New_at (f n c : Int) (w : World) : Calls Try.prog 25 #[.int .i64 f, .int .i64 n, .int .i64 c] w fun e w' => ∃ b, e = .returned (.pointer (some ⟨b, 0, none⟩)) ∧ At w w' b ⟨clampN f, clampN n, clamp1 c, List.replicate (Cd.num (clampN n) (clamp1 c)).toNat false⟩ :=
  (New_calls f n c w).mono fun e w' ⟨b, he, hr, hk⟩ => ⟨b, he, hr, hk⟩
theorem Mark_at (a : Int) (h : At W w b s) (ha9 : a ≤ 9223372036854775807) : Calls Try.prog 27 #[.pointer (some ⟨b, 0, none⟩), .int .i64 a] w fun e w' =>
    e = .returned (.bool (decide (0 ≤ s.of_ a))) ∧ At W w' b { s with m := if 0 ≤ s.of_ a then s.m.set (s.of_ a).toNat true else s.m } :=
  (Mark_calls a w h.1 ha9).mono fun e w' ⟨he, hr, hk⟩ => ⟨he, h.go hr hk⟩
theorem Marked_at (a : Int) (h : At W w b s) (ha9 : a ≤ 9223372036854775807) : Calls Try.prog 31 #[.pointer (some ⟨b, 0, none⟩), .int .i64 a] w fun e w' => e = .returned (.bool (s.marked a)) ∧ At W w' b s :=
  (Marked_calls a w h.1 ha9).mono fun e w' ⟨he, n, hw⟩ => ⟨he, hw ▸ h.drewN n⟩
theorem Clear_at (k : Int) (h : At W w b s) : Calls Try.prog 28 #[.pointer (some ⟨b, 0, none⟩), .int .i64 k] w fun e w' =>
    e = .returned (.bool (s.isMark k)) ∧ At W w' b { s with m := if s.isMark k then s.m.set k.toNat false else s.m } :=
  (Clear_calls k w h.1).mono fun e w' ⟨he, hr, hk⟩ => ⟨he, h.go hr hk⟩
theorem First_at (k : Int) (h : At W w b s) : Calls Try.prog 29 #[.pointer (some ⟨b, 0, none⟩), .int .i64 k] w fun e w' =>
    ∃ r, IsFirst s.m k.toNat r ∧ e = .returned (.tuple #[.int .i64 (fstO r), .bool r.isSome]) ∧ At W w' b s :=
  (First_calls k w h.1).mono fun e w' ⟨r, hf, he, hw⟩ => ⟨r, hf, he, hw ▸ h⟩
theorem Count_at (h : At W w b s) : Calls Try.prog 30 #[.pointer (some ⟨b, 0, none⟩)] w fun e w' => e = .returned (.int .i64 (s.m.count true)) ∧ At W w' b s :=
  (Count_calls w h.1).mono fun e w' ⟨he, hw⟩ => ⟨he, hw ▸ h⟩
theorem Part_at (k : Int) (h : At W w b s) : Calls Try.prog 32 #[.pointer (some ⟨b, 0, none⟩), .int .i64 k] w fun e w' => e = .returned (.tuple #[.int .i64 (s.part k).1, .int .i64 (s.part k).2]) ∧ At W w' b s :=
  (Part_calls k w h.1).mono fun e w' ⟨he, n, hw⟩ => ⟨he, hw ▸ h.drewN n⟩
theorem IsFirst.unique {m : List Bool} {k : Nat} {r r' : Option Nat} (h : IsFirst m k r) (h' : IsFirst m k r') : r = r' := by
  cases r with
  | none => cases r' with
    | none => rfl
    | some j => have := h j h'.1; rw [h'.2.2.1] at this; cases this
  | some i => cases r' with
    | none => have := h' i h.1; rw [h.2.2.1] at this; cases this
    | some j =>
      obtain ⟨a1, a2, a3, a4⟩ := h
      obtain ⟨b1, b2, b3, b4⟩ := h'
      rcases Nat.lt_trichotomy i j with hl | rfl | hl
      · have := b4 i a1 hl; rw [a3] at this; cases this
      · rfl
      · have := a4 j b1 hl; rw [b3] at this; cases this
end

set_option maxRecDepth 20000 in
set_option maxHeartbeats 2000000 in
theorem awake_calls (w : World) : Calls Try.prog 24 #[] w fun e w' => e = .returned (.bool true) ∧ Keep (fun _ => False) w w' := by
  go_enter Try.func24, Try.ntmps24
  go_wp2_with fail
  refine (New_at 10 20 8 w).mono ?_
  rintro e w0 ⟨b, rfl, h0⟩
  rw [show clampN 10 = 10 from by decide, show clampN 20 = 20 from by decide, show clamp1 8 = 8 from by decide, show List.replicate (Cd.num 20 8).toNat false = [false, false, false] from by decide] at h0
  go_wp2_with fail
  refine (Mark_at 17 h0 (by omega)).mono ?_
  rintro e w1 ⟨rfl, h1⟩
  rw [show Cd.of_ ⟨10, 20, 8, [false, false, false]⟩ 17 = 0 from by decide] at h1 ⊢
  rw [show decide ((0 : Int) ≤ 0) = true from by decide]
  replace h1 : At w w1 b ⟨10, 20, 8, [true, false, false]⟩ := h1
  go_wp2_with fail
  refine (Mark_at 29 h1 (by omega)).mono ?_
  rintro e w2 ⟨rfl, h2⟩
  rw [show Cd.of_ ⟨10, 20, 8, [true, false, false]⟩ 29 = 2 from by decide] at h2 ⊢
  rw [show decide ((0 : Int) ≤ 2) = true from by decide]
  replace h2 : At w w2 b ⟨10, 20, 8, [true, false, true]⟩ := h2
  go_wp2_with fail
  refine (Mark_at 30 h2 (by omega)).mono ?_
  rintro e w3 ⟨rfl, h3⟩
  rw [show Cd.of_ ⟨10, 20, 8, [true, false, true]⟩ 30 = -1 from by decide] at h3 ⊢
  rw [show decide ((0 : Int) ≤ -1) = false from by decide]
  replace h3 : At w w3 b ⟨10, 20, 8, [true, false, true]⟩ := h3
  go_wp2_with fail
  refine (Mark_at 9 h3 (by omega)).mono ?_
  rintro e w4 ⟨rfl, h4⟩
  rw [show Cd.of_ ⟨10, 20, 8, [true, false, true]⟩ 9 = -1 from by decide] at h4 ⊢
  rw [show decide ((0 : Int) ≤ -1) = false from by decide]
  replace h4 : At w w4 b ⟨10, 20, 8, [true, false, true]⟩ := h4
  clear h0 h1 h2 h3
  go_wp2_with fail
  refine (First_at 1 h4).mono ?_
  rintro e w5 ⟨r, hf, rfl, h5⟩
  have hr : r = some 2 := hf.unique ⟨by decide, by decide, by decide, fun j h1 h2 => by
    have h3 : j = 1 := by simp at h1; omega
    subst h3; rfl⟩
  subst hr
  rw [show fstO (some 2) = 2 from rfl, show (some 2).isSome = true from rfl]
  clear hf
  go_wp2_with fail
  refine (Part_at 2 h5).mono ?_
  rintro e w6 ⟨rfl, h6⟩
  rw [show (Cd.part ⟨10, 20, 8, [true, false, true]⟩ 2).1 = 26 from by decide, show (Cd.part ⟨10, 20, 8, [true, false, true]⟩ 2).2 = 30 from by decide]
  go_wp2_with fail
  refine (Marked_at 10 h6 (by omega)).mono ?_
  rintro e w7 ⟨rfl, h7⟩
  rw [show Cd.marked ⟨10, 20, 8, [true, false, true]⟩ 10 = true from by decide]
  clear h4 h5 h6
  go_wp2_with fail
  refine (Marked_at 18 h7 (by omega)).mono ?_
  rintro e w8 ⟨rfl, h8⟩
  rw [show Cd.marked ⟨10, 20, 8, [true, false, true]⟩ 18 = false from by decide]
  go_wp2_with fail
  refine (Count_at h8).mono ?_
  rintro e w9 ⟨rfl, h9⟩
  rw [show ((([true, false, true] : List Bool).count true : Nat) : Int) = 2 from by decide]
  go_wp2_with fail
  refine (Clear_at 0 h9).mono ?_
  rintro e w10 ⟨rfl, h10⟩
  rw [show Cd.isMark ⟨10, 20, 8, [true, false, true]⟩ 0 = true from by decide]
  replace h10 : At w w10 b ⟨10, 20, 8, [false, false, true]⟩ := h10
  clear h7 h8 h9
  go_wp2_with fail
  refine (Clear_at 0 h10).mono ?_
  rintro e w11 ⟨rfl, h11⟩
  rw [show Cd.isMark ⟨10, 20, 8, [false, false, true]⟩ 0 = false from by decide]
  go_wp2_with fail
  refine (Cut_calls 1 0 5 w11).mono ?_
  rintro e w12 ⟨rfl, rfl⟩
  rw [show cut 1 0 5 = 1 from by decide]
  go_wp2_with fail
  go_ret
  exact ⟨rfl, h11.2⟩

theorem awake_at {W w : World} {b : Nat} {s : Cd} (h : At W w b s) : Calls Try.prog 24 #[] w fun e w' => e = .returned (.bool true) ∧ At W w' b s :=
  (awake_calls w).mono fun e w' ⟨he, hk⟩ => ⟨he, h.stay hk⟩

set_option maxRecDepth 20000 in
set_option maxHeartbeats 2000000 in
theorem None_calls (x : Int) (w : World) : Calls Try.prog 10 #[.int .i64 x] w fun e w' => e = .returned (.bool true) ∧ Below w.heap.size w w' := by
  go_enter Try.func10, Try.ntmps10
  go_wp2_with (first | (go_at_call 24; refine (awake_calls _).mono ?_; rintro e w1 ⟨rfl, k1⟩) | go_in | (go_quiet (fail)))
  all_goals
    go_ret
    first | exact ⟨rfl, (k1.drewN _).below (fun i h => h.elim)⟩ | exact ⟨rfl, k1.below (fun i h => h.elim)⟩
end Go.Proofs.Ytoalianiedjoaaa.Cd

