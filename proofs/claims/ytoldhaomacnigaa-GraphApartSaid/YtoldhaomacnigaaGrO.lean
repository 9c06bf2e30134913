/- GraphApart as a contract. No condition. -/
import Derived.Test.YtoldhaomacnigaaGrM
set_option linter.unusedVariables false
set_option linter.unusedSimpArgs false
namespace Go.Proofs.Ytoldhaomacnigaa.Gr
open Go.RowKit Go.Proofs.Ytoldhaomacnigaa.W Go.Proofs.Ytoldhaomacnigaa Go.Proofs.Ytoldhaomacnigaa.Sm
abbrev z5 : List Int := [0, 0, 0, 0, 0]
def ap0 : GS := ⟨[⟨[0], z5⟩], [1, 0, 0, 0], 6⟩
def ap1 : GS := ⟨[⟨[0], z5⟩, ⟨[0], z5⟩], [1, 2, 0, 0], 6⟩
def ap2 : GS := ⟨[⟨[0], z5⟩, ⟨[0], z5⟩], [1, 2, 1, 0], 6⟩
def ap3 (k : Nat) (v : Int) : GS := ⟨[⟨[0], z5.set k v⟩, ⟨[0], z5⟩], [1, 2, 1, 0], 6⟩
def ap4 (k : Nat) (v : Int) : GS := ⟨[⟨[2], z5.set k v⟩, ⟨[0], z5⟩], [1, 2, 1, 0], 6⟩
def ap5 (k : Nat) (v : Int) : GS := ⟨[⟨[2], z5.set k v⟩, ⟨[0], z5⟩], [1, 2, 1, 2], 6⟩
theorem as0 : gdo (gnew 4 6) ⟨1, 0, 1, 5, 0⟩ = (err 0, ap0) := by rfl
theorem as1 : gdo ap0 ⟨1, 1, 1, 5, 0⟩ = (err 0, ap1) := by rfl
theorem as2 : gdo ap1 ⟨7, 2, 0, 0, 0⟩ = (err 0, ap2) := by rfl
theorem as3 (k : Nat) (h : k < 5) (v : Int) : gdo ap2 ⟨5, 0, k, 0, v⟩ = (err 0, ap3 k v) := by
  rcases (by omega : k = 0 ∨ k = 1 ∨ k = 2 ∨ k = 3 ∨ k = 4) with rfl | rfl | rfl | rfl | rfl <;> rfl
theorem as4 (k : Nat) (h : k < 5) (v : Int) : gdo (ap3 k v) ⟨3, 2, 0, 1, 0⟩ = (err 0, ap4 k v) := by
  rcases (by omega : k = 0 ∨ k = 1 ∨ k = 2 ∨ k = 3 ∨ k = 4) with rfl | rfl | rfl | rfl | rfl <;> rfl
theorem as5 (k : Nat) (h : k < 5) (v : Int) : gdo (ap4 k v) ⟨2, 3, 0, 0, 0⟩ = (err 0, ap5 k v) := by
  rcases (by omega : k = 0 ∨ k = 1 ∨ k = 2 ∨ k = 3 ∨ k = 4) with rfl | rfl | rfl | rfl | rfl <;> rfl
theorem as6 (k : Nat) (h : k < 5) (v : Int) : gdo (ap5 k v) ⟨4, 2, k, 0, 0⟩ = (⟨0, false, 0, v⟩, ap5 k v) := by
  rcases (by omega : k = 0 ∨ k = 1 ∨ k = 2 ∨ k = 3 ∨ k = 4) with rfl | rfl | rfl | rfl | rfl <;> rfl
theorem as7 (k : Nat) (h : k < 5) (v : Int) : gdo (ap5 k v) ⟨4, 1, k, 0, 0⟩ = (⟨0, false, 0, 0⟩, ap5 k v) := by
  rcases (by omega : k = 0 ∨ k = 1 ∨ k = 2 ∨ k = 3 ∨ k = 4) with rfl | rfl | rfl | rfl | rfl <;> rfl
theorem as8 (k : Nat) (h : k < 5) (v : Int) : gdo (ap5 k v) ⟨8, 3, 1, 0, 0⟩ = (⟨0, true, 0, 0⟩, ap5 k v) := by
  rcases (by omega : k = 0 ∨ k = 1 ∨ k = 2 ∨ k = 3 ∨ k = 4) with rfl | rfl | rfl | rfl | rfl <;> rfl
theorem as9 (k : Nat) (h : k < 5) (v : Int) : gdo (ap5 k v) ⟨8, 3, 0, 0, 0⟩ = (⟨0, false, 0, 0⟩, ap5 k v) := by
  rcases (by omega : k = 0 ∨ k = 1 ∨ k = 2 ∨ k = 3 ∨ k = 4) with rfl | rfl | rfl | rfl | rfl <;> rfl
theorem run_fieldE (a b c d : Value) (W : World) : (Instr.field 30 (.agg #[a, b, c, d]) 0).run Try.prog W = .ok a W := by kernel_rfl
set_option maxRecDepth 20000 in
set_option maxHeartbeats 4000000 in
theorem Apart_calls (a0 v : Int) (w : World) (p0 : 0 ≤ a0 ∧ a0 ≤ 255) (p1 : 0 ≤ v ∧ v ≤ 18446744073709551615) :
    Calls Try.prog 7 #[.int .u8 a0, .int .u64 v] w fun e w' => e = .returned (.bool true) ∧ Below w.heap.size w w' := by
  obtain ⟨p00, p01⟩ := p0
  have P1 := Lib.hid p1
  clear p1
  obtain ⟨k, hk⟩ : ∃ k : Nat, a0 % 5 = k := ⟨(a0 % 5).toNat, by omega⟩
  have k5 : k < 5 := by omega
  have hfl := run_fieldE
  go_enter Try.func7, Try.ntmps7
  go_wp2_with fail
  refine (New_sep 4 6 (Sep.nil w)).mono ?_
  rintro e w1 ⟨g, rfl, h1⟩
  have H1 := Lib.hid h1
  clear h1
  go_wp2_with fail
  refine wp_loop_rounds 3 ?_
  rw [rounds_succ]
  go_wp2_with fail
  refine (Do_sep ⟨1, 0, 1, 5, 0⟩ (by unfold A5.wf; decide) H1.out 0 rfl).mono ?_
  rintro e w2 ⟨rfl, h2⟩
  rw [as0] at h2 ⊢
  simp only [err, GA.cells]
  have H2 := Lib.hid h2
  clear h2 H1
  go_wp2_with fail
  rw [rounds_succ]
  go_wp2_with fail
  refine (Do_sep ⟨1, 1, 1, 5, 0⟩ (by unfold A5.wf; decide) H2.out 0 rfl).mono ?_
  rintro e w3 ⟨rfl, h3⟩
  rw [as1] at h3 ⊢
  simp only [err, GA.cells]
  have H3 := Lib.hid h3
  clear h3 H2
  go_wp2_with fail
  rw [rounds_succ]
  go_wp2_with fail
  rw [hk]
  refine (Do_sep ⟨7, 2, 0, 0, 0⟩ ⟨by simp only []; omega, by simp only []; omega, by simp only []; omega, by simp only []; omega, by simp only []; omega⟩ H3.out 0 rfl).mono ?_
  rintro e w4 ⟨rfl, h4⟩
  rw [as2] at h4 ⊢
  simp only [err, GA.cells]
  have H4 := Lib.hid h4
  clear h4 H3
  go_wp2_with fail
  refine (Do_sep ⟨5, 0, k, 0, v⟩ ⟨by simp only []; omega, by simp only []; omega, by simp only []; omega, by simp only []; omega, P1.out⟩ H4.out 0 rfl).mono ?_
  rintro e w5 ⟨rfl, h5⟩
  rw [as3 k k5 v] at h5 ⊢
  simp only [err, GA.cells]
  have H5 := Lib.hid h5
  clear h5 H4
  go_wp2_with fail
  refine (Do_sep ⟨3, 2, 0, 1, 0⟩ ⟨by simp only []; omega, by simp only []; omega, by simp only []; omega, by simp only []; omega, by simp only []; omega⟩ H5.out 0 rfl).mono ?_
  rintro e w6 ⟨rfl, h6⟩
  rw [as4 k k5 v] at h6 ⊢
  simp only [err, GA.cells]
  have H6 := Lib.hid h6
  clear h6 H5
  go_wp2_with fail
  refine (Do_sep ⟨2, 3, 0, 0, 0⟩ ⟨by simp only []; omega, by simp only []; omega, by simp only []; omega, by simp only []; omega, by simp only []; omega⟩ H6.out 0 rfl).mono ?_
  rintro e w7 ⟨rfl, h7⟩
  rw [as5 k k5 v] at h7 ⊢
  simp only [err, GA.cells]
  have H7 := Lib.hid h7
  clear h7 H6
  go_wp2_with fail
  refine (Do_sep ⟨4, 2, k, 0, 0⟩ ⟨by simp only []; omega, by simp only []; omega, by simp only []; omega, by simp only []; omega, by simp only []; omega⟩ H7.out 0 rfl).mono ?_
  rintro e w8 ⟨rfl, h8⟩
  rw [as6 k k5 v] at h8 ⊢
  simp only [err, GA.cells]
  have H8 := Lib.hid (SepO.new_blk h8 30 #[.int .i64 0, .bool false, .int .i64 0, .int .u64 v])
  clear h8 H7
  go_wp2_with fail
  refine (Do_sep ⟨4, 1, k, 0, 0⟩ ⟨by simp only []; omega, by simp only []; omega, by simp only []; omega, by simp only []; omega, by simp only []; omega⟩ H8.out 0 rfl).mono ?_
  rintro e w9 ⟨rfl, h9⟩
  rw [as7 k k5 v] at h9 ⊢
  simp only [err, GA.cells]
  have H9 := Lib.hid (SepO.new_blk h9 30 #[.int .i64 0, .bool false, .int .i64 0, .int .u64 0])
  clear h9 H8
  go_wp2_with fail
  refine (Do_sep ⟨8, 3, 1, 0, 0⟩ ⟨by simp only []; omega, by simp only []; omega, by simp only []; omega, by simp only []; omega, by simp only []; omega⟩ H9.out 0 rfl).mono ?_
  rintro e w10 ⟨rfl, h10⟩
  rw [as8 k k5 v] at h10 ⊢
  simp only [err, GA.cells]
  have H10 := Lib.hid (SepO.new_blk h10 30 #[.int .i64 0, .bool true, .int .i64 0, .int .u64 0])
  clear h10 H9
  go_wp2_with fail
  refine (Do_sep ⟨8, 3, 0, 0, 0⟩ ⟨by simp only []; omega, by simp only []; omega, by simp only []; omega, by simp only []; omega, by simp only []; omega⟩ H10.out 0 rfl).mono ?_
  rintro e w11 ⟨rfl, h11⟩
  rw [as9 k k5 v] at h11 ⊢
  simp only [err, GA.cells]
  have H11 := Lib.hid (SepO.new_blk h11 30 #[.int .i64 0, .bool false, .int .i64 0, .int .u64 0])
  clear h11 H10
  go_wp2_with fail
  refine (awake_calls _).mono ?_
  rintro e w12 ⟨rfl, k12⟩
  have h12 := H11.out.stay k12
  have b1 := SepO.blk h12 1 rfl
  have b2 := SepO.blk h12 2 rfl
  have b3 := SepO.blk h12 3 rfl
  have b4 := SepO.blk h12 4 rfl
  have d10 := b1.cell 0
  have d13 := b1.cell 3
  have d20 := b2.cell 0
  have d23 := b2.cell 3
  have d31 := b3.cell 1
  have d41 := b4.cell 1
  simp at d10 d13 d20 d23 d31 d41
  have H12 := Lib.hid h12
  clear h12 b1 b2 b3 b4 H11 k12
  go_wp2_with fail
  go_ret
  exact ⟨rfl, H12.out.below⟩
end Go.Proofs.Ytoldhaomacnigaa.Gr
