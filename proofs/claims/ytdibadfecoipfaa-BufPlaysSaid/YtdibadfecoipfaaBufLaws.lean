/- The laws of layer 9 as contracts: each returns true and leaves what was there as it was. Condition: an argument that is a slice reads as a list. -/
import Derived.Test.YtdibadfecoipfaaBuf
set_option linter.unusedVariables false
set_option linter.unusedSimpArgs false
namespace Go.Proofs.Ytdibadfecoipfaa.Bf
open Go.RowKit Go.Proofs.Ytdibadfecoipfaa.W Go.Proofs.Ytdibadfecoipfaa.Sm

theorem putL_ok {L : List Int} {most : Int} (x : Int) (h : (L.length : Int) < most) : putL L most x = L ++ [x] := by unfold putL; rw [if_pos h]
theorem putL_no {L : List Int} {most : Int} (x : Int) (h : ¬ (L.length : Int) < most) : putL L most x = L := by unfold putL; rw [if_neg h]

set_option maxHeartbeats 1000000 in
theorem awake_calls (w : World) : Calls Try.prog 18 #[] w fun e w' => e = .returned (.bool true) ∧ Keep (fun _ => False) w w' := by
  have up : ∀ (W : World) (i : Nat), w.heap.size ≤ W.heap.size → (w.heap.size ≤ i ∨ W.heap.size ≤ i) → w.heap.size ≤ i := fun W i h1 h2 => by omega
  go_enter Try.func18, Try.ntmps18
  go_wp2_with fail
  refine (New_calls 2 w).mono ?_
  rintro e w1 ⟨b, rfl, h1, k1⟩
  rw [show clampN 2 = 2 from by decide] at h1
  go_wp2_with fail
  refine (Put_calls 5 w1 h1).mono ?_
  rintro e w2 ⟨rfl, h2, k2⟩
  rw [show decide ((([] : List Int).length : Int) < 2) = true from by decide]
  replace h2 := h2.mono (fun i h => up w1 i k1.size h)
  rw [show putL [] 2 5 = [5] from by decide] at h2
  replace k2 := k1.trans k2 (fun i h => .inr h)
  go_wp2_with fail
  refine (Put_calls 7 w2 h2).mono ?_
  rintro e w3 ⟨rfl, h3, k3⟩
  rw [show decide ((([5] : List Int).length : Int) < 2) = true from by decide]
  replace h3 := h3.mono (fun i h => up w2 i k2.size h)
  rw [show putL [5] 2 7 = [5, 7] from by decide] at h3
  replace k3 := k2.trans k3 (fun i h => .inr h)
  go_wp2_with fail
  refine (Put_calls 9 w3 h3).mono ?_
  rintro e w4 ⟨rfl, h4, k4⟩
  rw [show decide ((([5, 7] : List Int).length : Int) < 2) = false from by decide]
  replace h4 := h4.mono (fun i h => up w3 i k3.size h)
  rw [show putL [5, 7] 2 9 = [5, 7] from by decide] at h4
  replace k4 := k3.trans k4 (fun i h => .inr h)
  go_wp2_with fail
  refine (Take_calls w4 h4).mono ?_
  rintro e w5 ⟨rfl, h5, k5⟩
  rw [show fst0 [5, 7] = 5 from rfl, show some0 [5, 7] = true from rfl]
  replace k5 := k4.trans k5 (fun i h => .inr h)
  go_wp2_with fail
  refine (Len_calls w5 h5).mono ?_
  rintro e w6 ⟨rfl, rfl⟩
  go_wp2_with fail
  refine (All_calls w5 h5).mono ?_
  rintro e w6 ⟨A, c, rfl, h6, k6⟩
  replace h5 := h5.keep k6 (fun _ _ h => h)
  replace k6 := k5.trans k6 (fun i h => .inl h)
  go_wp2_with fail
  have hB := Blk.new w6 3 #[.int .i64 7]
  have hS : SL (w6.alloc (.cells #[.int .i64 7] 3)) (fun i => w6.heap.size ≤ i) .i64 (.slice (some ⟨w6.heap.size, 0, none⟩) 1 1) [7] := SL.of_blk (l := [7]) hB (Nat.le_refl _) (by simp)
  replace h5 := h5.keep ((Keep.refl (fun _ => False) w6).alloc (.cells #[.int .i64 7] 3)) (fun _ _ h => h)
  replace k6 := k6.alloc (.cells #[.int .i64 7] 3)
  refine (Ints_calls _ (h6.alloc _) hS).mono ?_
  rintro e w7 ⟨rfl, n, rfl⟩
  rw [show decide (([5, 7] : List Int).tail = [7]) = true from by decide]
  replace h5 := h5.drewN n
  replace k6 := k6.drewN n
  go_wp2_with fail
  refine (Put_calls 8 _ h5).mono ?_
  rintro e w8 ⟨rfl, h8, k8⟩
  rw [show decide ((([5, 7] : List Int).tail.length : Int) < 2) = true from by decide]
  go_wp2_with fail
  go_ret
  exact ⟨by simp, k6.trans k8 (fun i h => .inr h)⟩

set_option maxHeartbeats 1000000 in
theorem None_calls (x : Int) (w : World) : Calls Try.prog 4 #[.int .i64 x] w fun e w' => e = .returned (.bool true) ∧ Below w.heap.size w w' := by
  go_enter Try.func4, Try.ntmps4
  go_wp2_with (first | (go_at_call 18; refine (awake_calls _).mono ?_; rintro e w1 ⟨rfl, k1⟩) | go_in | (go_quiet (fail)))
  all_goals
    go_ret
    exact ⟨rfl, (k1.drewN _).below (fun i h => h.elim)⟩

theorem len_snoc (L : List Int) (x : Int) : (L ++ [x]).length = L.length + 1 := by simp

set_option maxHeartbeats 2000000 in
theorem Order_calls {v1 : Value} {l1 : List Int} (w : World) (g1 : SL w (fun i => i < w.heap.size) .i64 v1 l1) :
    Calls Try.prog 5 #[v1] w fun e w' => e = .returned (.bool true) ∧ Below w.heap.size w w' := by
  obtain ⟨A1, c1, rfl, hm1, hc1⟩ := g1
  have HC1 := Lib.hid hc1
  clear hc1
  obtain ⟨N, hN⟩ : ∃ N : Nat, (if l1.length < 100 then l1.length else 100) = N := ⟨_, rfl⟩
  have n1 : N ≤ 100 := by rw [← hN]; split <;> omega
  have n2 : N ≤ l1.length := by rw [← hN]; split <;> omega
  have n3 : ∀ k, N ≤ k → k ≤ N → ¬ (k < l1.length ∧ k < 100) := by intro k h1 h2; rw [← hN] at h1 h2; split at h1 <;> omega
  have N3 := Lib.hid n3
  clear n3 hN
  have up : ∀ (W : World) (i : Nat), w.heap.size ≤ W.heap.size → (w.heap.size ≤ i ∨ W.heap.size ≤ i) → w.heap.size ≤ i := fun W i h1 h2 => by omega
  have UP := Lib.hid up
  clear up
  go_enter Try.func5, Try.ntmps5
  go_wp2_with fail
  refine (New_calls 100 w).mono ?_
  rintro e w1 ⟨b, rfl, h1, k1⟩
  rw [show clampN 100 = 100 from by decide] at h1
  go_wp2_with fail
  go_loopw [4] (fun i wr => ∃ k : Nat, k ≤ N ∧ i = .int .i64 k ∧ BRep wr (fun i => w.heap.size ≤ i) b 100 (l1.take k) ∧ Keep (fun _ => False) w wr) (fun i _ => N - (intOf i).toNat)
  case atStart => exact ⟨0, Nat.zero_le _, rfl, h1, k1⟩
  case round =>
    clear h1 k1
    obtain ⟨k, hk, rfl, hr, hkp⟩ := hrel
    by_cases hlt : k < N
    · have hl1 : k < l1.length := by omega
      have hl2 : k < 100 := by omega
      obtain ⟨b1, o1, rfl, hb1, hlt1, hcell1⟩ := HC1.out (by omega)
      have q1 : wr.cell? ⟨b1, o1 + k, none⟩ = some (.int .i64 (l1[k]?.getD 0)) := (World.cell?_of_block (hkp.block b1 hlt1 (fun h => h))).trans (hcell1 k hl1)
      obtain ⟨x, hx⟩ : ∃ x, l1[k]?.getD 0 = x := ⟨_, rfl⟩
      rw [hx] at q1
      have htk : l1.take (k + 1) = l1.take k ++ [x] := by
        rw [List.take_add_one]; congr 1
        rw [← hx]; simp [hl1]
      have hlen : ((l1.take k).length : Int) < 100 := by rw [List.length_take]; omega
      have HTK := Lib.hid htk
      clear hcell1 hx htk
      go_wp2_with fail
      refine (Put_calls x wr hr).mono ?_
      rintro e w3 ⟨rfl, h3, k3⟩
      rw [show decide (((l1.take k).length : Int) < 100) = true from by simpa using hlen]
      rw [putL_ok x hlen, ← HTK.out] at h3
      replace h3 := h3.mono (fun i h => UP.out wr i hkp.size h)
      go_wp2_with fail
      go_roundw
      case rel => exact ⟨k + 1, by omega, by go_num, h3, hkp.trans k3 (fun i h => .inr h)⟩
      case measure => simp [intOf]; omega
    · have hkN : k = N := by omega
      subst hkN
      have hno := N3.out k (Nat.le_refl _) (Nat.le_refl _)
      have hL : (l1.take k).length = k := by rw [List.length_take]; omega
      have HL := Lib.hid hL
      clear hL hlt
      rcases (by omega : ¬ k < l1.length ∨ (k < l1.length ∧ ¬ k < 100)) with hx | ⟨hx, hx'⟩
      all_goals
        clear hno
        go_wp2_with fail
        go_loopw [5] (fun i wr => ∃ j : Nat, j ≤ k ∧ i = .int .i64 j ∧ BRep wr (fun i => w.heap.size ≤ i) b 100 ((l1.take k).drop j) ∧ Keep (fun _ => False) w wr) (fun i _ => k - (intOf i).toNat)
        case atStart => exact ⟨0, Nat.zero_le _, rfl, hr, hkp⟩
        case round =>
          clear hr hkp hx
          obtain ⟨j, hj, rfl, hr, hkp⟩ := hrel
          by_cases hlt : j < k
          · have hl1 : j < l1.length := by omega
            have hl2 : j < 100 := by omega
            obtain ⟨b1, o1, rfl, hb1, hlt1, hcell1⟩ := HC1.out (by omega)
            obtain ⟨x, hx⟩ : ∃ x, l1[j]?.getD 0 = x := ⟨_, rfl⟩
            have hdr : (l1.take k).drop j = x :: (l1.take k).drop (j + 1) := by
              rw [List.drop_eq_getElem_cons (by rw [HL.out]; exact hlt)]
              congr 1
              rw [← hx]; simp [hl1]
            have HC := Lib.hid (hcell1 j hl1)
            have HX := Lib.hid hx
            rw [hdr] at hr
            clear hcell1 hx hdr
            go_wp2_with fail
            refine (Take_calls wr hr).mono ?_
            rintro e w3 ⟨rfl, h3, k3⟩
            rw [show fst0 (x :: (l1.take k).drop (j + 1)) = x from rfl, show some0 (x :: (l1.take k).drop (j + 1)) = true from rfl]
            rw [show (x :: (l1.take k).drop (j + 1)).tail = (l1.take k).drop (j + 1) from rfl] at h3
            replace k3 := hkp.trans k3 (fun i h => .inr h)
            have q1 : w3.cell? ⟨b1, o1 + j, none⟩ = some (.int .i64 x) := by
              rw [← HX.out]; exact (World.cell?_of_block (k3.block b1 hlt1 (fun h => h))).trans HC.out
            clear hr
            go_wp2_with fail
            go_roundw
            case rel => exact ⟨j + 1, by omega, by go_num, h3, k3⟩
            case measure => simp [intOf]; omega
          · have hjk : j = k := by omega
            subst hjk
            have hnil : (l1.take j).drop j = [] := List.drop_eq_nil_of_le (by rw [HL.out]; exact Nat.le_refl _)
            rw [hnil] at hr
            have hno := N3.out j (Nat.le_refl _) (Nat.le_refl _)
            clear hnil
            rcases (by omega : ¬ j < l1.length ∨ (j < l1.length ∧ ¬ j < 100)) with hx | ⟨hx, hx'⟩
            all_goals
              clear hno
              go_wp2_with fail
              refine (awake_calls wr).mono ?_
              rintro e w6 ⟨rfl, k6⟩
              have h6 := hr.keep k6 (fun _ _ h => h)
              go_wp2_with fail
              refine (Len_calls w6 h6).mono ?_
              rintro e w7 ⟨rfl, rfl⟩
              go_wp2_with fail
              go_ret
              exact ⟨by simp, (hkp.trans k6 (fun i h => .inl h)).below (fun i h => h.elim)⟩
end Go.Proofs.Ytdibadfecoipfaa.Bf
