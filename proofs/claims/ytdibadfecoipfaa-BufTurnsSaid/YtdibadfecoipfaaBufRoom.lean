/- BufRoom and BufTurns as contracts. Condition: the list reads as a list. -/
import Derived.Test.YtdibadfecoipfaaBufLaws
set_option linter.unusedVariables false
set_option linter.unusedSimpArgs false
namespace Go.Proofs.Ytdibadfecoipfaa.Bf
open Go.RowKit Go.Proofs.Ytdibadfecoipfaa.W Go.Proofs.Ytdibadfecoipfaa.Sm

def upTo (k : Nat) : List Int := (List.range k).map fun i : Nat => (i : Int)
theorem upTo_len (k : Nat) : (upTo k).length = k := by simp [upTo]
theorem upTo_succ (k : Nat) : upTo (k + 1) = upTo k ++ [(k : Int)] := by simp [upTo, List.range_succ]

set_option maxHeartbeats 2000000 in
theorem Room_calls (n x : Int) (w : World) (n0 : 0 ≤ n) (n1 : n ≤ 255) :
    Calls Try.prog 6 #[.int .u8 n, .int .i64 x] w fun e w' => e = .returned (.bool true) ∧ Below w.heap.size w w' := by
  have up : ∀ (W : World) (i : Nat), w.heap.size ≤ W.heap.size → (w.heap.size ≤ i ∨ W.heap.size ≤ i) → w.heap.size ≤ i := fun W i h1 h2 => by omega
  have UP := Lib.hid up
  clear up
  have b0 : 0 ≤ n % 50 := by omega
  have b1 : n % 50 < 50 := by omega
  go_enter Try.func6, Try.ntmps6
  go_wp2_with fail
  generalize n % 50 = m at b0 b1 ⊢
  obtain ⟨M, rfl⟩ : ∃ M : Nat, m = (M : Int) := ⟨m.toNat, by omega⟩
  refine (New_calls (M : Int) w).mono ?_
  rintro e w1 ⟨b, rfl, h1, k1⟩
  rw [show clampN (M : Int) = (M : Int) from by unfold clampN; rw [if_neg (by omega), if_neg (by omega)]] at h1
  go_wp2_with fail
  go_loopw [7] (fun i wr => ∃ k : Nat, k ≤ M ∧ i = .int .i64 k ∧ BRep wr (fun i => w.heap.size ≤ i) b (M : Int) (upTo k) ∧ Keep (fun _ => False) w wr) (fun i _ => M - (intOf i).toNat)
  case atStart => exact ⟨0, Nat.zero_le _, rfl, h1, k1⟩
  case round =>
    clear h1 k1
    obtain ⟨k, hk, rfl, hr, hkp⟩ := hrel
    have hlen := upTo_len k
    by_cases hlt : k < M
    · have hc : ((upTo k).length : Int) < (M : Int) := by omega
      have hs := upTo_succ k
      have HS := Lib.hid hs
      clear hs hlen
      go_wp2_with fail
      refine (Put_calls (k : Int) wr hr).mono ?_
      rintro e w3 ⟨rfl, h3, k3⟩
      rw [show decide (((upTo k).length : Int) < (M : Int)) = true from by simpa using hc]
      rw [putL_ok _ hc, ← HS.out] at h3
      replace h3 := h3.mono (fun i h => UP.out wr i hkp.size h)
      go_wp2_with fail
      go_roundw
      case rel => exact ⟨k + 1, by omega, by go_num, h3, hkp.trans k3 (fun i h => .inr h)⟩
      case measure => simp [intOf]; omega
    · have hkM : k = M := by omega
      subst hkM
      have hc : ¬ ((upTo k).length : Int) < (k : Int) := by omega
      have HLEN := Lib.hid hlen
      clear hlen
      go_wp2_with fail
      refine (Put_calls x wr hr).mono ?_
      rintro e w3 ⟨rfl, h3, k3⟩
      rw [show decide (((upTo k).length : Int) < (k : Int)) = false from by simpa using hc]
      rw [putL_no _ (by omega)] at h3
      replace h3 := h3.mono (fun i h => UP.out wr i hkp.size h)
      replace k3 := hkp.trans k3 (fun i h => .inr h)
      clear hr hc
      go_wp2_with fail
      refine (Len_calls w3 h3).mono ?_
      rintro e w4 ⟨rfl, rfl⟩
      rw [HLEN.out]
      by_cases hz : k = 0
      · subst hz
        go_wp2_with fail
        refine (awake_calls w3).mono ?_
        rintro e w6 ⟨rfl, k6⟩
        go_wp2_with fail
        go_ret
        exact ⟨by simp, (k3.trans k6 (fun i h => .inl h)).below (fun i h => h.elim)⟩
      · obtain ⟨j, rfl⟩ : ∃ j, k = j + 1 := ⟨k - 1, by omega⟩
        have hcons : upTo (j + 1) = 0 :: (List.range j).map (fun i => ((i + 1 : Nat) : Int)) := by
          unfold upTo
          rw [List.range_succ_eq_map]
          simp [List.map_map]
        obtain ⟨T, hT⟩ : ∃ T, (List.range j).map (fun i => ((i + 1 : Nat) : Int)) = T := ⟨_, rfl⟩
        have hTl : T.length = j := by rw [← hT]; simp
        rw [hT] at hcons
        rw [hcons] at h3
        have hbz : (((j + 1 : Nat) : Int) == 0) = false := by simp; omega
        have HTL := Lib.hid hTl
        clear hcons hT HLEN hTl hz
        go_wp2_with fail
        refine (Take_calls w3 h3).mono ?_
        rintro e w4 ⟨rfl, h4, k4⟩
        rw [show fst0 (0 :: T) = 0 from rfl, show some0 (0 :: T) = true from rfl]
        rw [show (0 :: T).tail = T from rfl] at h4
        replace k4 := k3.trans k4 (fun i h => .inr h)
        go_wp2_with fail
        refine (awake_calls w4).mono ?_
        rintro e w5 ⟨rfl, k5⟩
        have h5 := h4.keep k5 (fun _ _ h => h)
        replace k5 := k4.trans k5 (fun i h => .inl h)
        clear h3 k3 h4 k4
        have hc1 : (T.length : Int) < ((j + 1 : Nat) : Int) := by rw [HTL.out]; omega
        go_wp2_with fail
        refine (Put_calls x w5 h5).mono ?_
        rintro e w6 ⟨rfl, h6, k6⟩
        rw [show decide ((T.length : Int) < ((j + 1 : Nat) : Int)) = true from by simpa using hc1]
        rw [putL_ok _ hc1] at h6
        replace h6 := h6.mono (fun i h => UP.out w5 i k5.size h)
        replace k6 := k5.trans k6 (fun i h => .inr h)
        have hl2 : (T ++ [x]).length = j + 1 := by rw [List.length_append, HTL.out]; rfl
        have hc2 : ¬ ((T ++ [x]).length : Int) < ((j + 1 : Nat) : Int) := by rw [hl2]; omega
        clear h5 k5 hc1
        go_wp2_with fail
        refine (Put_calls x w6 h6).mono ?_
        rintro e w7 ⟨rfl, h7, k7⟩
        rw [show decide (((T ++ [x]).length : Int) < ((j + 1 : Nat) : Int)) = false from by simpa using hc2]
        rw [putL_no _ (by omega)] at h7
        replace k7 := k6.trans k7 (fun i h => .inr h)
        clear hc2
        go_wp2_with fail
        refine (Len_calls w7 h7).mono ?_
        rintro e w8 ⟨rfl, rfl⟩
        rw [hl2]
        clear hl2
        go_wp2_with fail
        go_ret
        exact ⟨by simp, k7.below (fun i h => h.elim)⟩
end Go.Proofs.Ytdibadfecoipfaa.Bf
