/- BumpTurns as a contract. Condition: the list reads as a list of small numbers. -/
import Derived.Test.YtoalianiedjoaaaBumpAt
set_option linter.unusedVariables false
set_option linter.unusedSimpArgs false
namespace Go.Proofs.Ytoalianiedjoaaa.Bp
open Go.RowKit Go.Proofs.Ytoalianiedjoaaa.W Go.Proofs.Ytoalianiedjoaaa.Sm

/-- Both halves empty. -/
def em (n : Int) (x : Bool) : Sp := ⟨3, 0, 3 + n, 0, n, x⟩
theorem em_take {n z : Int} (x : Bool) (h : 1 ≤ z ∧ z ≤ n) : (em n x).fits z = true ∧ ((em n x).take z).left = 0 ∧ ((em n x).take z).flip.here = (em n x).there ∧ ((em n x).take z).flip.there = (em n x).here ∧ ((em n x).take z).flip.room = n ∧ 0 < ((em n x).take z).flip.left ∧ ((em n x).take z).flip.drop = em n (!x) := by
  obtain ⟨h0, h1⟩ := h
  have f : (em n x).fits z = true := by cases x <;> simp [em, Sp.fits, Sp.room, Sp.used] <;> omega
  refine ⟨f, ?_⟩
  cases x <;> simp [em] at f <;> simp [Sp.take, f, em, Sp.left, Sp.flip, Sp.here, Sp.there, Sp.room, Sp.used, Sp.drop] <;> omega
theorem em_not {n z : Int} (x : Bool) (h : ¬ (1 ≤ z ∧ z ≤ n)) : (em n x).fits z = false ∧ (em n x).take z = em n x ∧ (em n x).left = 0 ∧ (em n x).flip = em n (!x) ∧ (em n (!x)).here = (em n x).there ∧ (em n (!x)).there = (em n x).here ∧ (em n (!x)).room = n ∧ (em n (!x)).left = 0 ∧ (em n (!x)).drop = em n (!x) := by
  have f : (em n x).fits z = false := by cases x <;> simp [em, Sp.fits, Sp.room, Sp.used] <;> omega
  refine ⟨f, by simp [Sp.take, f], ?_⟩
  cases x <;> simp [em, Sp.left, Sp.flip, Sp.here, Sp.there, Sp.room, Sp.used, Sp.drop]
theorem em_here (n : Int) (x : Bool) : (em n x).here + (em n x).used = (em n x).here := by cases x <;> simp [em, Sp.here, Sp.used]

set_option maxRecDepth 20000 in
set_option maxHeartbeats 4000000 in
theorem Turns_calls {v1 : Value} {l1 : List Int} (n : Int) (w : World) (n0 : 0 ≤ n) (n1 : n ≤ 255) (g1 : SL w (fun i => i < w.heap.size) .u8 v1 l1) (q1 : ∀ x ∈ l1, 0 ≤ x ∧ x ≤ 255) :
    Calls Try.prog 5 #[.int .u8 n, v1] w fun e w' => e = .returned (.bool true) ∧ Below w.heap.size w w' := by
  obtain ⟨A1, c1, rfl, hm1, hc1⟩ := g1
  have HC1 := Lib.hid hc1
  clear hc1
  have Q1 := Lib.hid q1
  clear q1
  go_enter Try.func5, Try.ntmps5
  go_wp2_with fail
  refine (New_at 3 n w).mono ?_
  rintro e w1 ⟨b, rfl, h⟩
  rw [clampN_id (n := 3) (by omega) (by omega), clampN_id (n := n) (by omega) (by omega)] at h
  go_wp2_with fail
  go_loopw [6] (fun i wr => ∃ (k : Nat) (x : Bool), k ≤ 40 ∧ k ≤ l1.length ∧ i = .int .i64 k ∧ At w wr b (em n x)) (fun i _ => 40 - (intOf i).toNat)
  case atStart => exact ⟨0, false, by omega, by omega, rfl, h⟩
  case round =>
    clear h
    obtain ⟨k, x, hk, hkl, rfl, hr⟩ := hrel
    by_cases hc : k < l1.length ∧ k < 40
    · obtain ⟨hl1, hl2⟩ := hc
      obtain ⟨b1, o1, rfl, hb1, hlt1, hcell1⟩ := HC1.out (by omega)
      have hz := Q1.out (l1[k]?.getD 0) (by simp [hl1])
      have qq : ∀ (w' : World) (s' : Sp), At w w' b s' → w'.cell? ⟨b1, o1 + k, none⟩ = some (.int .u8 (l1[k]?.getD 0)) := fun w' s' h' => (World.cell?_of_block (h'.block b1 hlt1)).trans (hcell1 k hl1)
      generalize l1[k]?.getD 0 = z at hz qq
      obtain ⟨z0, z1⟩ := hz
      have HQ := Lib.hid qq
      clear qq hcell1
      go_wp2_with fail
      refine (Begin_at hr).mono ?_
      rintro e w2 ⟨rfl, h2⟩
      have q2 := HQ.out w2 _ h2
      clear hr
      by_cases hf : 1 ≤ z ∧ z ≤ n
      · obtain ⟨t1, t2, t3, t4, t5, t6, t7⟩ := em_take x hf
        have eh := em_here n x
        obtain ⟨hf0, hf1⟩ := hf
        obtain ⟨X, hX⟩ : ∃ X, (em n x).here = X := ⟨_, rfl⟩
        obtain ⟨Y, hY⟩ : ∃ Y, (em n x).there = Y := ⟨_, rfl⟩
        rw [hX] at t4 ⊢
        rw [hY] at t3 ⊢
        rw [hX] at eh
        have HX := Lib.hid hX
        clear hX hY
        have T1 := Lib.hid t1
        have T2 := Lib.hid t2
        have T3 := Lib.hid t3
        have T4 := Lib.hid t4
        have T5 := Lib.hid t5
        have T6 := Lib.hid t6
        have T7 := Lib.hid t7
        have EH := Lib.hid eh
        clear t1 t2 t3 t4 t5 t6 t7 eh
        go_wp2_with fail
        refine (Take_at z h2).mono ?_
        rintro e w3 ⟨rfl, h3⟩
        rw [T1.out, if_pos rfl, show (em n x).here + (em n x).used = X from by rw [HX.out]; exact EH.out]
        have q3 := HQ.out w3 _ h3
        clear h2 q2
        have hgt : decide (0 < z) = true := by simp; omega
        go_wp2_with fail
        refine (Flip_at h3).mono ?_
        rintro e w4 ⟨rfl, h4⟩
        rw [T2.out, show decide ((0 : Int) ≤ 0) = true from by decide]
        clear h3 q3
        go_wp2_with fail
        refine (Begin_at h4).mono ?_
        rintro e w5 ⟨rfl, h5⟩
        rw [T3.out, T4.out]
        clear h4
        go_wp2_with fail
        refine (Room_at h5).mono ?_
        rintro e w6 ⟨rfl, h6⟩
        rw [T5.out]
        clear h5
        go_wp2_with fail
        refine (Drop_at h6).mono ?_
        rintro e w7 ⟨rfl, h7⟩
        rw [T7.out] at h7
        rw [show decide (0 < ((em n x).take z).flip.left) = true from by simpa using T6.out]
        clear h6
        go_wp2_with fail
        refine (Left_at h7).mono ?_
        rintro e w8 ⟨rfl, h8⟩
        rw [show (em n (!x)).left = 0 from by cases x <;> rfl]
        clear h7
        go_wp2_with fail
        go_roundw
        case rel => exact ⟨k + 1, !x, by omega, by omega, by go_num, h8⟩
        case measure => simp [intOf]; omega
      · obtain ⟨t1, t2, t3, t4, t5, t6, t7, t8, t9⟩ := em_not x hf
        obtain ⟨X, hX⟩ : ∃ X, (em n x).here = X := ⟨_, rfl⟩
        obtain ⟨Y, hY⟩ : ∃ Y, (em n x).there = Y := ⟨_, rfl⟩
        rw [hX] at t6 ⊢
        rw [hY] at t5 ⊢
        clear hX hY
        have T1 := Lib.hid t1
        have T2 := Lib.hid t2
        have T3 := Lib.hid t3
        have T4 := Lib.hid t4
        have T5 := Lib.hid t5
        have T6 := Lib.hid t6
        have T7 := Lib.hid t7
        have T8 := Lib.hid t8
        have T9 := Lib.hid t9
        clear t1 t2 t3 t4 t5 t6 t7 t8 t9
        go_wp2_with fail
        refine (Take_at z h2).mono ?_
        rintro e w3 ⟨rfl, h3⟩
        rw [T1.out, if_neg (by simp)]
        rw [T2.out] at h3
        have q3 := HQ.out w3 _ h3
        clear h2 q2
        rcases (by omega : z = 0 ∨ (0 < z ∧ n < z)) with hx | ⟨hx, hx'⟩
        all_goals
          clear hf
          go_wp2_with fail
          refine (Flip_at h3).mono ?_
          rintro e w4 ⟨rfl, h4⟩
          rw [T3.out, show decide ((0 : Int) ≤ 0) = true from by decide]
          rw [T4.out] at h4
          clear h3 q3
          go_wp2_with fail
          refine (Begin_at h4).mono ?_
          rintro e w5 ⟨rfl, h5⟩
          rw [T5.out, T6.out]
          clear h4
          go_wp2_with fail
          refine (Room_at h5).mono ?_
          rintro e w6 ⟨rfl, h6⟩
          rw [T7.out]
          clear h5
          go_wp2_with fail
          refine (Drop_at h6).mono ?_
          rintro e w7 ⟨rfl, h7⟩
          rw [T9.out] at h7
          rw [T8.out, show decide ((0 : Int) < 0) = false from by decide]
          clear h6
          go_wp2_with fail
          refine (Left_at h7).mono ?_
          rintro e w8 ⟨rfl, h8⟩
          rw [T8.out]
          clear h7
          go_wp2_with fail
          go_roundw
          case rel => exact ⟨k + 1, !x, by omega, by omega, by go_num, h8⟩
          case measure => simp [intOf]; omega
    · rcases (by omega : ¬ k < l1.length ∨ (k < l1.length ∧ ¬ k < 40)) with hx | ⟨hx, hx'⟩
      all_goals
        clear hc
        go_wp2_with fail
        refine (awake_at hr).mono ?_
        rintro e w3 ⟨rfl, h3⟩
        go_wp2_with fail
        go_ret
        exact ⟨rfl, h3.below⟩
end Go.Proofs.Ytoalianiedjoaaa.Bp
