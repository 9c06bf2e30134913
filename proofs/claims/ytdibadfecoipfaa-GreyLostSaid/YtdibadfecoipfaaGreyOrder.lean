/- GreyOrder and GreyLost as contracts. Condition: an argument that is a slice reads as a list. -/
import Derived.Test.YtdibadfecoipfaaGreyLaws
set_option linter.unusedVariables false
set_option linter.unusedSimpArgs false
namespace Go.Proofs.Ytdibadfecoipfaa.Gy
open Go.RowKit Go.Proofs.Ytdibadfecoipfaa.W Go.Proofs.Ytdibadfecoipfaa.Sm

theorem take_putL {l : List Int} {k : Nat} {most : Int} (h : k < l.length) (hm : (k : Int) < most) : putL (l.take k) most (l[k]?.getD 0) = l.take (k + 1) := by
  rw [putL_ok _ (by rw [List.length_take]; omega), List.take_add_one]; simp [h]
theorem take_len {l : List Int} {k : Nat} (h : k ≤ l.length) : (l.take k).length = k := by rw [List.length_take]; omega
theorem take_last {l : List Int} {k : Nat} (h : k < l.length) : last0 (l.take (k + 1)) = l[k]?.getD 0 ∧ some0 (l.take (k + 1)) = true ∧ (l.take (k + 1)).take ((l.take (k + 1)).length - 1) = l.take k := by
  have h1 := take_len (l := l) (k := k + 1) h
  refine ⟨by unfold last0; rw [h1, List.getElem?_take, if_pos (by omega)]; simp, ?_, by rw [h1, List.take_take]; congr 1; omega⟩
  cases hl : l.take (k + 1) with
  | nil => rw [hl] at h1; simp at h1
  | cons _ _ => rfl

set_option maxRecDepth 20000 in
set_option maxHeartbeats 4000000 in
theorem Order_calls {v1 : Value} {l1 : List Int} (w : World) (g1 : SL w (fun i => i < w.heap.size) .i64 v1 l1) :
    Calls Try.prog 10 #[v1] w fun e w' => e = .returned (.bool true) ∧ Below w.heap.size w w' := by
  obtain ⟨A1, c1, rfl, hm1, hc1⟩ := g1
  have HC1 := Lib.hid hc1
  clear hc1
  by_cases hbig : 100 < l1.length
  · have hd : decide (100 < (l1.length : Int)) = true := by simp; omega
    go_enter Try.func10, Try.ntmps10
    go_wp2_with fail
    refine (New_at 100 w).mono ?_
    rintro e w1 ⟨b, rfl, h⟩
    rw [show clampN 100 = 100 from by decide] at h
    go_wp2_with fail
    go_loopw [5] (fun i wr => ∃ k : Nat, k ≤ 100 ∧ i = .int .i64 k ∧ At w wr b 100 (l1.take k) false) (fun i _ => 100 - (intOf i).toNat)
    case atStart => exact ⟨0, Nat.zero_le _, rfl, h⟩
    case round =>
      clear h
      obtain ⟨k, hk, rfl, hr⟩ := hrel
      by_cases hlt : k < 100
      · have hl1 : k < l1.length := by omega
        have hk100 : (k : Int) < 100 := by omega
        obtain ⟨b1, o1, rfl, hb1, hlt1, hcell1⟩ := HC1.out (by omega)
        have q1 : wr.cell? ⟨b1, o1 + k, none⟩ = some (.int .i64 (l1[k]?.getD 0)) := (World.cell?_of_block (hr.block b1 hlt1)).trans (hcell1 k hl1)
        have hp := take_putL hl1 hk100
        have hle := take_len (l := l1) (k := k) (by omega)
        generalize l1[k]?.getD 0 = x at q1 hp
        have HP := Lib.hid hp
        have HL := Lib.hid hle
        clear hp hle hcell1
        go_wp2_with fail
        refine (Push_at x hr).mono ?_
        rintro e w3 ⟨rfl, h3⟩
        rw [HP.out, HL.out, show decide ((100 : Int) ≤ (k : Int)) = false from by simpa using hk100, Bool.or_false] at h3
        rw [HL.out, show decide ((k : Int) < 100) = true from by simpa using hk100]
        go_wp2_with fail
        go_roundw
        case rel => exact ⟨k + 1, by omega, by go_num, h3⟩
        case measure => simp [intOf]; omega
      · have hkk : k = 100 := by omega
        rw [show (k : Int) = 100 from by omega]
        rw [hkk] at hr
        clear hlt
        go_wp2_with fail
        obtain ⟨wo, ho⟩ : ∃ wo : World, wo = wr := ⟨_, rfl⟩
        clear ho
        go_loopw [6] (fun i wr => ∃ k : Nat, k ≤ 100 ∧ i = .int .i64 ((k : Int) - 1) ∧ At w wr b 100 (l1.take k) false) (fun i _ => (intOf i + 1).toNat)
        case atStart => exact ⟨100, Nat.le_refl _, rfl, hr⟩
        case round =>
          clear hr
          obtain ⟨k, hk, rfl, hr⟩ := hrel
          cases k with
          | zero =>
            go_wp2_with fail
            refine (awake_at hr).mono ?_
            rintro e w4 ⟨rfl, h4⟩
            go_wp2_with fail
            refine (Lost_at h4).mono ?_
            rintro e w5 ⟨rfl, h5⟩
            go_wp2_with fail
            refine (Len_at h5).mono ?_
            rintro e w6 ⟨rfl, h6⟩
            rw [show (((l1.take 0).length : Nat) : Int) = 0 from by simp]
            go_wp2_with fail
            go_ret
            exact ⟨by simp, h6.below⟩
          | succ k =>
            have hl1 : k < l1.length := by omega
            obtain ⟨b1, o1, rfl, hb1, hlt1, hcell1⟩ := HC1.out (by omega)
            have q1 : ∀ W', At w W' b 100 (l1.take k) false → W'.cell? ⟨b1, o1 + k, none⟩ = some (.int .i64 (l1[k]?.getD 0)) := fun W' h => (World.cell?_of_block (h.block b1 hlt1)).trans (hcell1 k hl1)
            have hp := take_last hl1
            generalize l1[k]?.getD 0 = x at q1 hp
            have HP := Lib.hid hp
            have HQ := Lib.hid q1
            clear hp hcell1 q1
            have hcast : (((k + 1 : Nat) : Int) - 1) = (k : Int) := by omega
            rw [hcast]
            clear hcast
            go_wp2_with fail
            refine (Pop_at hr).mono ?_
            rintro e w3 ⟨rfl, h3⟩
            rw [HP.out.2.2] at h3
            rw [HP.out.1, HP.out.2.1]
            have q3 := HQ.out w3 h3
            go_wp2_with fail
            go_roundw
            case rel => exact ⟨k, by omega, by go_num, h3⟩
            case measure => simp [intOf] <;> omega
  · have hd : decide (100 < (l1.length : Int)) = false := by simp; omega
    go_enter Try.func10, Try.ntmps10
    go_wp2_with fail
    refine (New_at 100 w).mono ?_
    rintro e w1 ⟨b, rfl, h⟩
    rw [show clampN 100 = 100 from by decide] at h
    go_wp2_with fail
    go_loopw [5] (fun i wr => ∃ k : Nat, k ≤ l1.length ∧ i = .int .i64 k ∧ At w wr b 100 (l1.take k) false) (fun i _ => l1.length - (intOf i).toNat)
    case atStart => exact ⟨0, Nat.zero_le _, rfl, h⟩
    case round =>
      clear h
      obtain ⟨k, hk, rfl, hr⟩ := hrel
      by_cases hlt : k < l1.length
      · have hl1 : k < l1.length := by omega
        have hk100 : (k : Int) < 100 := by omega
        obtain ⟨b1, o1, rfl, hb1, hlt1, hcell1⟩ := HC1.out (by omega)
        have q1 : wr.cell? ⟨b1, o1 + k, none⟩ = some (.int .i64 (l1[k]?.getD 0)) := (World.cell?_of_block (hr.block b1 hlt1)).trans (hcell1 k hl1)
        have hp := take_putL hl1 hk100
        have hle := take_len (l := l1) (k := k) (by omega)
        generalize l1[k]?.getD 0 = x at q1 hp
        have HP := Lib.hid hp
        have HL := Lib.hid hle
        clear hp hle hcell1
        go_wp2_with fail
        refine (Push_at x hr).mono ?_
        rintro e w3 ⟨rfl, h3⟩
        rw [HP.out, HL.out, show decide ((100 : Int) ≤ (k : Int)) = false from by simpa using hk100, Bool.or_false] at h3
        rw [HL.out, show decide ((k : Int) < 100) = true from by simpa using hk100]
        go_wp2_with fail
        go_roundw
        case rel => exact ⟨k + 1, by omega, by go_num, h3⟩
        case measure => simp [intOf]; omega
      · have hkk : k = l1.length := by omega
        subst hkk
        clear hlt
        go_wp2_with fail
        obtain ⟨wo, ho⟩ : ∃ wo : World, wo = wr := ⟨_, rfl⟩
        clear ho
        go_loopw [6] (fun i wr => ∃ k : Nat, k ≤ l1.length ∧ i = .int .i64 ((k : Int) - 1) ∧ At w wr b 100 (l1.take k) false) (fun i _ => (intOf i + 1).toNat)
        case atStart => exact ⟨l1.length, Nat.le_refl _, rfl, hr⟩
        case round =>
          clear hr
          obtain ⟨k, hk, rfl, hr⟩ := hrel
          cases k with
          | zero =>
            go_wp2_with fail
            refine (awake_at hr).mono ?_
            rintro e w4 ⟨rfl, h4⟩
            go_wp2_with fail
            refine (Lost_at h4).mono ?_
            rintro e w5 ⟨rfl, h5⟩
            go_wp2_with fail
            refine (Len_at h5).mono ?_
            rintro e w6 ⟨rfl, h6⟩
            rw [show (((l1.take 0).length : Nat) : Int) = 0 from by simp]
            go_wp2_with fail
            go_ret
            exact ⟨by simp, h6.below⟩
          | succ k =>
            have hl1 : k < l1.length := by omega
            obtain ⟨b1, o1, rfl, hb1, hlt1, hcell1⟩ := HC1.out (by omega)
            have q1 : ∀ W', At w W' b 100 (l1.take k) false → W'.cell? ⟨b1, o1 + k, none⟩ = some (.int .i64 (l1[k]?.getD 0)) := fun W' h => (World.cell?_of_block (h.block b1 hlt1)).trans (hcell1 k hl1)
            have hp := take_last hl1
            generalize l1[k]?.getD 0 = x at q1 hp
            have HP := Lib.hid hp
            have HQ := Lib.hid q1
            clear hp hcell1 q1
            have hcast : (((k + 1 : Nat) : Int) - 1) = (k : Int) := by omega
            rw [hcast]
            clear hcast
            go_wp2_with fail
            refine (Pop_at hr).mono ?_
            rintro e w3 ⟨rfl, h3⟩
            rw [HP.out.2.2] at h3
            rw [HP.out.1, HP.out.2.1]
            have q3 := HQ.out w3 h3
            go_wp2_with fail
            go_roundw
            case rel => exact ⟨k, by omega, by go_num, h3⟩
            case measure => simp [intOf] <;> omega

set_option maxRecDepth 20000 in
set_option maxHeartbeats 4000000 in
theorem Lost_law (a c : Int) (w : World) (a0 : 0 ≤ a) (a1 : a ≤ 255) (c0 : 0 ≤ c) (c1 : c ≤ 255) :
    Calls Try.prog 11 #[.int .u8 a, .int .u8 c] w fun e w' => e = .returned (.bool true) ∧ Below w.heap.size w w' := by
  have b0 : 0 ≤ a % 30 := by omega
  have b1 : a % 30 < 30 := by omega
  have d0 : 0 ≤ c % 60 := by omega
  have d1 : c % 60 < 60 := by omega
  go_enter Try.func11, Try.ntmps11
  go_wp2_with fail
  generalize a % 30 = m at b0 b1 ⊢
  generalize c % 60 = n at d0 d1 ⊢
  refine (New_at m w).mono ?_
  rintro e w1 ⟨b, rfl, h⟩
  rw [clampN_id b0 (by omega)] at h
  go_wp2_with fail
  go_loopw [8] (fun i wr => ∃ (k : Nat) (L : List Int), (k : Int) ≤ n ∧ i = .int .i64 k ∧ (L.length : Int) = (if (k : Int) < m then (k : Int) else m) ∧ At w wr b m L (decide (m < (k : Int)))) (fun i _ => (n - intOf i).toNat)
  case atStart => exact ⟨0, [], d0, rfl, by simp; omega, by rw [show decide (m < ((0 : Nat) : Int)) = false from by simpa using b0]; exact h⟩
  case round =>
    clear h
    obtain ⟨k, L, hk, rfl, hL, hr⟩ := hrel
    by_cases hlt : (k : Int) < n
    · by_cases hkm : (k : Int) < m
      · rw [if_pos hkm] at hL
        go_wp2_with fail
        refine (Push_at (k : Int) hr).mono ?_
        rintro e w3 ⟨rfl, h3⟩
        rw [putL_ok _ (by omega), hL, show decide (m < (k : Int)) = false from by simp; omega, show decide (m ≤ (k : Int)) = false from by simp; omega] at h3
        rw [hL, show decide ((k : Int) < m) = true from by simpa using hkm]
        go_wp2_with fail
        go_roundw
        case rel => exact ⟨k + 1, L ++ [(k : Int)], by omega, by go_num, by simp; split <;> omega, by rw [show decide (m < ((k + 1 : Nat) : Int)) = false from by simp; omega]; exact h3⟩
        case measure => simp [intOf]; omega
      · rw [if_neg hkm] at hL
        go_wp2_with fail
        refine (Push_at (k : Int) hr).mono ?_
        rintro e w3 ⟨rfl, h3⟩
        rw [putL_no _ (by omega), hL, show decide (m ≤ m) = true from by simp, Bool.or_true] at h3
        rw [hL, show decide (m < m) = false from by simp]
        go_wp2_with fail
        go_roundw
        case rel => exact ⟨k + 1, L, by omega, by go_num, by simp; split <;> omega, by rw [show decide (m < ((k + 1 : Nat) : Int)) = true from by simp; omega]; exact h3⟩
        case measure => simp [intOf]; omega
    · have hkn : (k : Int) = n := by omega
      rw [hkn] at hr
      by_cases hmn : m < n
      · rw [show decide (m < n) = true from by simpa using hmn] at hr
        go_wp2_with fail
        refine (Lost_at hr).mono ?_
        rintro e w4 ⟨rfl, h4⟩
        go_wp2_with fail
        refine (Pop_at h4).mono ?_
        rintro e w5 ⟨rfl, h5⟩
        go_wp2_with fail
        refine (Lost_at h5).mono ?_
        rintro e w6 ⟨rfl, h6⟩
        go_wp2_with fail
        refine (Found_at h6).mono ?_
        rintro e w7 ⟨rfl, h7⟩
        go_wp2_with fail
        refine (awake_at h7).mono ?_
        rintro e w8 ⟨rfl, h8⟩
        go_wp2_with fail
        refine (Lost_at h8).mono ?_
        rintro e w9 ⟨rfl, h9⟩
        go_wp2_with fail
        go_ret
        exact ⟨by simp, h9.below⟩
      · rw [show decide (m < n) = false from by simpa using hmn] at hr
        go_wp2_with fail
        refine (Lost_at hr).mono ?_
        rintro e w4 ⟨rfl, h4⟩
        go_wp2_with fail
        refine (Pop_at h4).mono ?_
        rintro e w5 ⟨rfl, h5⟩
        go_wp2_with fail
        refine (Lost_at h5).mono ?_
        rintro e w6 ⟨rfl, h6⟩
        go_wp2_with fail
        refine (Found_at h6).mono ?_
        rintro e w7 ⟨rfl, h7⟩
        go_wp2_with fail
        refine (awake_at h7).mono ?_
        rintro e w8 ⟨rfl, h8⟩
        go_wp2_with fail
        refine (Lost_at h8).mono ?_
        rintro e w9 ⟨rfl, h9⟩
        go_wp2_with fail
        go_ret
        exact ⟨by simp, h9.below⟩
end Go.Proofs.Ytdibadfecoipfaa.Gy
