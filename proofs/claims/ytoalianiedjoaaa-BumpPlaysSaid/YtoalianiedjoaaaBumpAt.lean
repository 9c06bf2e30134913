/- Bump's contracts over one base world: what was there ahead of the law stays. No condition. -/
import Derived.Test.YtoalianiedjoaaaBumpLaws
set_option linter.unusedVariables false
set_option linter.unusedSimpArgs false
namespace Go.Proofs.Ytoalianiedjoaaa.Bp
open Go.RowKit Go.Proofs.Ytoalianiedjoaaa.W Go.Proofs.Ytoalianiedjoaaa.Sm

def At (W w : World) (b : Nat) (s : Sp) : Prop := SRep w (fun i => W.heap.size ≤ i) b s ∧ Keep (fun _ => False) W w
variable {W w : World} {b : Nat} {s : Sp}
theorem At.go {w' : World} {s' : Sp} (h : At W w b s) (r : SRep w' (fun i => W.heap.size ≤ i) b s') (k : Keep (fun i => W.heap.size ≤ i) w w') : At W w' b s' :=
  ⟨r, h.2.trans k (fun i h => .inr h)⟩
theorem At.stay {w' : World} (h : At W w b s) (k : Keep (fun _ => False) w w') : At W w' b s := ⟨h.1.keep k (fun _ _ h => h), h.2.trans k (fun i h => .inl h)⟩
theorem At.drewN (h : At W w b s) (n : Nat) : At W (w.drewN n) b s := ⟨h.1.drewN n, h.2.drewN n⟩
theorem At.below (h : At W w b s) : Below W.heap.size W w := h.2.below (fun _ h => h.elim)
theorem At.block (h : At W w b s) (i : Nat) (hi : i < W.heap.size) : w.heap[i]? = W.heap[i]? := h.2.block i hi (fun h => h)
theorem New_at (f n : Int) (w : World) : Calls Try.prog 12 #[.int .i64 f, .int .i64 n] w fun e w' => ∃ b, e = .returned (.pointer (some ⟨b, 0, none⟩)) ∧ At w w' b ⟨clampN f, 0, clampN f + clampN n, 0, clampN n, false⟩ :=
  (New_calls f n w).mono fun e w' ⟨b, he, hr, hk⟩ => ⟨b, he, hr, hk⟩
theorem Used_at (h : At W w b s) : Calls Try.prog 18 #[.pointer (some ⟨b, 0, none⟩)] w fun e w' => e = .returned (.int .i64 s.used) ∧ At W w' b s :=
  (Used_calls w h.1).mono fun e w' ⟨he, n, hw⟩ => ⟨he, hw ▸ h.drewN n⟩
theorem Left_at (h : At W w b s) : Calls Try.prog 19 #[.pointer (some ⟨b, 0, none⟩)] w fun e w' => e = .returned (.int .i64 s.left) ∧ At W w' b s :=
  (Left_calls w h.1).mono fun e w' ⟨he, n, hw⟩ => ⟨he, hw ▸ h.drewN n⟩
theorem Room_at (h : At W w b s) : Calls Try.prog 21 #[.pointer (some ⟨b, 0, none⟩)] w fun e w' => e = .returned (.int .i64 s.room) ∧ At W w' b s :=
  (Room_calls w h.1).mono fun e w' ⟨he, n, hw⟩ => ⟨he, hw ▸ h.drewN n⟩
theorem Begin_at (h : At W w b s) : Calls Try.prog 20 #[.pointer (some ⟨b, 0, none⟩)] w fun e w' => e = .returned (.tuple #[.int .i64 s.here, .int .i64 s.there]) ∧ At W w' b s :=
  (Begin_calls w h.1).mono fun e w' ⟨he, n, hw⟩ => ⟨he, hw ▸ h.drewN n⟩
theorem Flip_at (h : At W w b s) : Calls Try.prog 17 #[.pointer (some ⟨b, 0, none⟩)] w fun e w' => e = .returned (.bool (decide (s.left ≤ 0))) ∧ At W w' b s.flip :=
  (Flip_calls w h.1).mono fun e w' ⟨he, hr, hk⟩ => ⟨he, h.go hr hk⟩
theorem Drop_at (h : At W w b s) : Calls Try.prog 22 #[.pointer (some ⟨b, 0, none⟩)] w fun e w' => e = .returned (.bool (decide (0 < s.left))) ∧ At W w' b s.drop :=
  (Drop_calls w h.1).mono fun e w' ⟨he, hr, hk⟩ => ⟨he, h.go hr hk⟩
theorem Take_at (n : Int) (h : At W w b s) : Calls Try.prog 13 #[.pointer (some ⟨b, 0, none⟩), .int .i64 n] w fun e w' => e = .returned (.tuple #[.int .i64 (if s.fits n then s.here + s.used else 0), .bool (s.fits n)]) ∧ At W w' b (s.take n) :=
  (Take_calls n w h.1).mono fun e w' ⟨he, hr, hk⟩ => ⟨he, h.go hr hk⟩
theorem In_at (a : Int) (h : At W w b s) (ha9 : a ≤ 9223372036854775807) : Calls Try.prog 14 #[.pointer (some ⟨b, 0, none⟩), .int .i64 a] w fun e w' => e = .returned (.bool (s.isIn a)) ∧ At W w' b s :=
  (In_calls a w h.1 ha9).mono fun e w' ⟨he, hk⟩ => ⟨he, h.stay hk⟩
theorem From_at (a : Int) (h : At W w b s) (ha9 : a ≤ 9223372036854775807) : Calls Try.prog 15 #[.pointer (some ⟨b, 0, none⟩), .int .i64 a] w fun e w' => e = .returned (.bool (s.isFrom a)) ∧ At W w' b s :=
  (From_calls a w h.1 ha9).mono fun e w' ⟨he, hk⟩ => ⟨he, h.stay hk⟩
theorem awake_at (h : At W w b s) : Calls Try.prog 16 #[] w fun e w' => e = .returned (.bool true) ∧ At W w' b s :=
  (awake_calls w).mono fun e w' ⟨he, hk⟩ => ⟨he, h.stay hk⟩
theorem clampN_id {n : Int} (h0 : 0 ≤ n) (h1 : n ≤ 1048576) : clampN n = n := by unfold clampN; rw [if_neg (by omega), if_neg (by omega)]

end Go.Proofs.Ytoalianiedjoaaa.Bp
