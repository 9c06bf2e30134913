/- BufTurns as a contract. Condition: the list reads as a list. -/
import Derived.Test.YtdibadfecoipfaaBufRoom
set_option linter.unusedVariables false
set_option linter.unusedSimpArgs false
namespace Go.Proofs.Ytdibadfecoipfaa.Bf
open Go.RowKit Go.Proofs.Ytdibadfecoipfaa.W Go.Proofs.Ytdibadfecoipfaa.Sm

def negs (k : Nat) : List Int := (List.range k).map fun i : Nat => -1 - (i : Int)
theorem negs_len (k : Nat) : (negs k).length = k := by simp [negs]
theorem negs_succ (k : Nat) : negs (k + 1) = negs k ++ [-1 - (k : Int)] := by simp [negs, List.range_succ]
theorem negs_at {k i : Nat} (h : i < k) : (negs k)[i]?.getD 0 = -1 - (i : Int) := by simp [negs, h]
/-- What there is behind i rounds. -/
def turn (k : Nat) (l : List Int) (i : Nat) : List Int := (negs k ++ l.take i).drop i
theorem turn_len {k i : Nat} {l : List Int} (h : i ≤ l.length) : (turn k l i).length = k := by unfold turn; rw [List.length_drop, List.length_append, negs_len, List.length_take]; omega
theorem turn_put {k i : Nat} {l : List Int} (h : i < l.length) : turn k l i ++ [l[i]?.getD 0] = (negs k ++ l.take (i + 1)).drop i := by
  unfold turn
  rw [List.take_add_one, ← List.append_assoc, List.drop_append_of_le_length (l₁ := negs k ++ l.take i) (by rw [List.length_append, negs_len, List.length_take]; omega)]
  simp [h]
theorem turn_take {k i : Nat} {l : List Int} (h : i < l.length) : ∃ y, (negs k ++ l.take (i + 1)).drop i = y :: turn k l (i + 1) ∧ y = if i < k then -1 - (i : Int) else l[i - k]?.getD 0 := by
  have hl : i < (negs k ++ l.take (i + 1)).length := by rw [List.length_append, negs_len, List.length_take]; omega
  refine ⟨_, List.drop_eq_getElem_cons hl, ?_⟩
  have e : (negs k ++ l.take (i + 1))[i]?.getD 0 = (negs k ++ l.take (i + 1))[i] := by simp [List.getElem?_eq_getElem hl]
  rw [← e]
  by_cases hik : i < k
  · rw [if_pos hik, List.getElem?_append_left (by rw [negs_len]; exact hik), negs_at hik]
  · rw [if_neg hik, List.getElem?_append_right (by rw [negs_len]; omega), negs_len, List.getElem?_take, if_pos (by omega)]

set_option maxHeartbeats 4000000 in
theorem Turns_calls {v1 : Value} {l1 : List Int} (n : Int) (w : World) (n0 : 0 ≤ n) (n1 : n ≤ 255) (g1 : SL w (fun i => i < w.heap.size) .i64 v1 l1) :
    Calls Try.prog 7 #[.int .u8 n, v1] w fun e w' => e = .returned (.bool true) ∧ Below w.heap.size w w' := by
  obtain ⟨A1, c1, rfl, hm1, hc1⟩ := g1
  have HC1 := Lib.hid hc1
  clear hc1
  have up : ∀ (W : World) (i : Nat), w.heap.size ≤ W.heap.size → (w.heap.size ≤ i ∨ W.heap.size ≤ i) → w.heap.size ≤ i := fun W i h1 h2 => by omega
  have UP := Lib.hid up
  clear up
  have b0 : 0 ≤ n % 10 := by omega
  have b1 : n % 10 < 10 := by omega
  go_enter Try.func7, Try.ntmps7
  go_wp2_with fail
  generalize n % 10 = m at b0 b1 ⊢
  obtain ⟨K, rfl⟩ : ∃ K : Nat, m = (K : Int) := ⟨m.toNat, by omega⟩
  refine (New_calls ((K : Int) + 1) w).mono ?_
  rintro e w1 ⟨b, rfl, h1, k1⟩
  rw [show clampN ((K : Int) + 1) = (K : Int) + 1 from by unfold clampN; rw [if_neg (by omega), if_neg (by omega)]] at h1
  go_wp2_with fail
  go_loopw [7] (fun i wr => ∃ k : Nat, k ≤ K ∧ i = .int .i64 k ∧ BRep wr (fun i => w.heap.size ≤ i) b ((K : Int) + 1) (negs k) ∧ Keep (fun _ => False) w wr) (fun i _ => K - (intOf i).toNat)
  case atStart => exact ⟨0, Nat.zero_le _, rfl, h1, k1⟩
  case round =>
    clear h1 k1
    obtain ⟨k, hk, rfl, hr, hkp⟩ := hrel
    have hlen := negs_len k
    by_cases hlt : k < K
    · have hc : ((negs k).length : Int) < (K : Int) + 1 := by omega
      have hs := negs_succ k
      have HS := Lib.hid hs
      clear hs hlen
      go_wp2_with fail
      refine (Put_calls (-1 - (k : Int)) wr hr).mono ?_
      rintro e w3 ⟨rfl, h3, k3⟩
      rw [show decide (((negs k).length : Int) < (K : Int) + 1) = true from by simpa using hc]
      rw [putL_ok _ hc, ← HS.out] at h3
      replace h3 := h3.mono (fun i h => UP.out wr i hkp.size h)
      go_wp2_with fail
      go_roundw
      case rel => exact ⟨k + 1, by omega, by go_num, h3, hkp.trans k3 (fun i h => .inr h)⟩
      case measure => simp [intOf]; omega
    · have hkK : k = K := by omega
      subst hkK
      clear hlen hlt
      go_wp2_with fail
      obtain ⟨wo, ho⟩ : ∃ wo : World, wo = wr := ⟨_, rfl⟩
      clear ho
      go_loopw [8] (fun i wr => ∃ j : Nat, j ≤ 100 ∧ j ≤ l1.length ∧ i = .int .i64 j ∧ BRep wr (fun i => w.heap.size ≤ i) b ((k : Int) + 1) (turn k l1 j) ∧ Keep (fun _ => False) w wr) (fun i _ => 100 - (intOf i).toNat)
      case atStart => exact ⟨0, by omega, by omega, rfl, by simpa [turn] using hr, hkp⟩
      case round =>
        clear hr hkp
        obtain ⟨j, hj, hjl, rfl, hr, hkp⟩ := hrel
        by_cases hc : j < l1.length ∧ j < 100
        · obtain ⟨hl1, hl2⟩ := hc
          obtain ⟨b1, o1, rfl, hb1, hlt1, hcell1⟩ := HC1.out (by omega)
          have q1 : wr.cell? ⟨b1, o1 + j, none⟩ = some (.int .i64 (l1[j]?.getD 0)) := (World.cell?_of_block (hkp.block b1 hlt1 (fun h => h))).trans (hcell1 j hl1)
          have hput := turn_put (k := k) hl1
          obtain ⟨y, htake, hy⟩ := turn_take (k := k) hl1
          have hc : ((turn k l1 j).length : Int) < (k : Int) + 1 := by rw [turn_len hjl]; omega
          have htl : (turn k l1 (j + 1)).length = k := turn_len (by omega)
          obtain ⟨x, hx⟩ : ∃ x, l1[j]?.getD 0 = x := ⟨_, rfl⟩
          rw [hx] at q1 hput
          rw [htake] at hput
          have HP := Lib.hid hput
          have HT := Lib.hid htl
          have HY := Lib.hid hy
          have HCC := Lib.hid hcell1
          clear hput htl hy hx htake hcell1
          go_wp2_with fail
          refine (Put_calls x wr hr).mono ?_
          rintro e w3 ⟨rfl, h3, k3⟩
          rw [show decide (((turn k l1 j).length : Int) < (k : Int) + 1) = true from by simpa using hc]
          rw [putL_ok _ hc, HP.out] at h3
          replace h3 := h3.mono (fun i h => UP.out wr i hkp.size h)
          replace k3 := hkp.trans k3 (fun i h => .inr h)
          have hkl := HT.out
          have q3 : k ≤ j → w3.cell? ⟨b1, o1 + (j - k), none⟩ = some (.int .i64 (l1[j - k]?.getD 0)) := fun h => (World.cell?_of_block (k3.block b1 hlt1 (fun h => h))).trans (HCC.out (j - k) (by omega))
          clear hr hkp q1 hc hkl
          by_cases hik : j < k
          · have hy : y = -1 - (j : Int) := by rw [HY.out, if_pos hik]
            have hyb : (y != -1 - (j : Int)) = false := by simp [hy]
            have HY2 := Lib.hid hy
            clear hy q3
            go_wp2_with fail
            refine (Take_calls w3 h3).mono ?_
            rintro e w4 ⟨rfl, h4, k4⟩
            rw [show fst0 (y :: turn k l1 (j + 1)) = y from rfl, show some0 (y :: turn k l1 (j + 1)) = true from rfl]
            rw [show (y :: turn k l1 (j + 1)).tail = turn k l1 (j + 1) from rfl] at h4
            replace k4 := k3.trans k4 (fun i h => .inr h)
            clear h3 k3
            go_wp2_with fail
            refine (Len_calls w4 h4).mono ?_
            rintro e w5 ⟨rfl, rfl⟩
            rw [HT.out]
            go_wp2_with fail
            go_roundw
            case rel => exact ⟨j + 1, by omega, by omega, by go_num, h4, k4⟩
            case measure => simp [intOf]; omega
          · have q4 := q3 (by omega)
            have hd : (j : Int) - (k : Int) = ((j - k : Nat) : Int) := by omega
            have hy : y = l1[j - k]?.getD 0 := by rw [HY.out, if_neg hik]
            rw [← hy] at q4
            obtain ⟨d, hdd⟩ : ∃ d, j - k = d := ⟨_, rfl⟩
            rw [hdd] at q4 hd
            have HY2 := Lib.hid hy
            have HDD := Lib.hid hdd
            have hyb : (y != y) = false := by simp
            have hdl : d < l1.length := by omega
            clear hy q3 hdd
            go_wp2_with fail
            refine (Take_calls w3 h3).mono ?_
            rintro e w4 ⟨rfl, h4, k4⟩
            rw [show fst0 (y :: turn k l1 (j + 1)) = y from rfl, show some0 (y :: turn k l1 (j + 1)) = true from rfl]
            rw [show (y :: turn k l1 (j + 1)).tail = turn k l1 (j + 1) from rfl] at h4
            replace k4 := k3.trans k4 (fun i h => .inr h)
            clear h3 k3
            go_wp2_with fail
            refine (Len_calls w4 h4).mono ?_
            rintro e w5 ⟨rfl, rfl⟩
            rw [HT.out]
            go_wp2_with fail
            go_roundw
            case rel => exact ⟨j + 1, by omega, by omega, by go_num, h4, k4⟩
            case measure => simp [intOf]; omega
        · rcases (by omega : ¬ j < l1.length ∨ (j < l1.length ∧ ¬ j < 100)) with hx | ⟨hx, hx'⟩
          all_goals
            clear hc
            go_wp2_with fail
            refine (awake_calls wr).mono ?_
            rintro e w6 ⟨rfl, k6⟩
            go_wp2_with fail
            go_ret
            exact ⟨by simp, (hkp.trans k6 (fun i h => .inl h)).below (fun i h => h.elim)⟩
end Go.Proofs.Ytdibadfecoipfaa.Bf
