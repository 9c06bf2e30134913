/- The laws of layer 12 as contracts: each returns true and leaves what was there as it was. Condition: an argument that is a slice reads as a list. -/
import Derived.Test.YthkajdbegdclmaaTable
set_option linter.unusedVariables false
set_option linter.unusedSimpArgs false
namespace Go.Proofs.Ythkajdbegdclmaa.Tab
open Go.RowKit Go.Proofs.Ythkajdbegdclmaa.W Go.Proofs.Ythkajdbegdclmaa.Sm

theorem TRep.bound {w : World} {ok : Nat → Prop} {b : Nat} {L : List Int} (h : TRep w ok b L) : TRep w (fun i => ok i ∧ i < w.heap.size) b L := by
  obtain ⟨g, ob, og, hl, hb, hg⟩ := h
  exact ⟨g, ⟨ob, hb.lt⟩, ⟨og, hg.lt⟩, hl, hb, hg⟩

set_option maxHeartbeats 1000000 in
theorem awake_calls (w : World) : Calls Try.prog 26 #[] w fun e w' => e = .returned (.bool true) ∧ Keep (fun _ => False) w w' := by
  go_enter Try.func26, Try.ntmps26
  go_wp2_with fail
  refine (New_calls 3 w).mono ?_
  rintro e w1 ⟨b, rfl, h1, k1⟩
  rw [show List.replicate (newN 3) (0 : Int) = [0, 0, 0] from by decide] at h1
  have s1 := k1.size
  go_wp2_with fail
  refine (Set_calls 1 9 w1 h1).mono ?_
  rintro e w2 ⟨rfl, h2, k2⟩
  rw [show sets [0, 0, 0] 1 9 = [0, 9, 0] from by decide] at h2
  rw [show setE [0, 0, 0] 1 = 0 from by decide]
  have s2 := k2.size
  go_wp2_with fail
  refine (Get_calls 1 w2 h2).mono ?_
  rintro e w3 ⟨rfl, rfl⟩
  rw [show gets [0, 9, 0] 1 = (9, 0) from by decide]
  go_wp2_with fail
  refine (Set_calls 3 1 w2 h2).mono ?_
  rintro e w3 ⟨rfl, h3, k3⟩
  rw [show sets [0, 9, 0] 3 1 = [0, 9, 0] from by decide] at h3
  rw [show setE [0, 9, 0] 3 = 3 from by decide]
  have s3 := k3.size
  go_wp2_with fail
  refine (All_calls w3 h3).mono ?_
  rintro e w4 ⟨A, rfl, h4, k4⟩
  have s4 := k4.size
  go_wp2_with fail
  have hB := Blk.new w4 3 #[.int .i64 0, .int .i64 9, .int .i64 0]
  have hS : SL (w4.alloc (.cells #[.int .i64 0, .int .i64 9, .int .i64 0] 3)) (fun i => w4.heap.size ≤ i) .i64 (.slice (some ⟨w4.heap.size, 0, none⟩) 3 3) [0, 9, 0] := SL.of_blk (l := [0, 9, 0]) hB (Nat.le_refl _) (by simp)
  refine (Ints_calls _ (h4.alloc _) hS).mono ?_
  rintro e w5 ⟨rfl, n, rfl⟩
  go_wp2_with fail
  go_ret
  refine ⟨by simp, Keep.drewN (Keep.alloc ?_ _) _⟩
  refine Keep.trans k1 (ok' := fun i => w.heap.size ≤ i) ?_ (fun i h => .inr h)
  refine Keep.trans k2 (ok' := fun i => w.heap.size ≤ i) ?_ (fun i h => .inl h)
  refine Keep.trans k3 (ok' := fun _ => False) ?_ (fun i h => .inl h.elim)
  exact k4

set_option maxHeartbeats 1000000 in
theorem None_calls (h x : Int) (w : World) : Calls Try.prog 10 #[.int .i64 h, .int .i64 x] w fun e w' => e = .returned (.bool true) ∧ Below w.heap.size w w' := by
  go_enter Try.func10, Try.ntmps10
  go_wp2_with (first | (go_at_call 26; refine (awake_calls _).mono ?_; rintro e w1 ⟨rfl, k1⟩) | go_in)
  go_ret
  exact ⟨rfl, k1.below (fun i h => h.elim)⟩

theorem setE_ok {L : List Int} {h : Int} (h0 : 0 ≤ h) (h1 : h < L.length) : setE L h = 0 := by unfold setE; rw [if_pos ⟨h0, h1⟩]
theorem sets_ok {L : List Int} {h : Int} (x : Int) (h0 : 0 ≤ h) (h1 : h < L.length) : sets L h x = L.set h.toNat x := by unfold sets; rw [if_pos ⟨h0, h1⟩]
theorem gets_ok {L : List Int} {h : Int} (h0 : 0 ≤ h) (h1 : h < L.length) : gets L h = (L[h.toNat]?.getD 0, 0) := by unfold gets; rw [if_pos ⟨h0, h1⟩]
theorem setE_no {L : List Int} {h : Int} (h1 : ¬ (0 ≤ h ∧ h < L.length)) : setE L h = 3 := by unfold setE; rw [if_neg h1]
theorem sets_no {L : List Int} {h : Int} (x : Int) (h1 : ¬ (0 ≤ h ∧ h < L.length)) : sets L h x = L := by unfold sets; rw [if_neg h1]
theorem gets_no {L : List Int} {h : Int} (h1 : ¬ (0 ≤ h ∧ h < L.length)) : gets L h = (0, 3) := by unfold gets; rw [if_neg h1]
theorem getD_set {L : List Int} {i j : Nat} {x : Int} (hi : i < L.length) : (L.set i x)[j]?.getD 0 = if i = j then x else L[j]?.getD 0 := by
  rw [List.getElem?_set]
  by_cases h : i = j
  · subst h; simp [hi]
  · simp [h]

/-- What the first loop has laid. -/
def Filled (L : List Int) (K k : Nat) : Prop := L.length = K ∧ ∀ j, j < k → L[j]?.getD 0 = 100 + (j : Int)
theorem Filled.next {L : List Int} {K k : Nat} (h : Filled L K k) (hk : k < K) : Filled (L.set k (100 + (k : Int))) K (k + 1) := by
  refine ⟨by simp [h.1], fun j hj => ?_⟩
  rw [getD_set (by rw [h.1]; exact hk)]
  by_cases e : k = j
  · subst e; simp
  · rw [if_neg e]; exact h.2 j (by omega)

/-- What the second loop has left. -/
def Rest (xs : List Int) (L : List Int) (k : Nat) : Prop := xs.length = L.length ∧ ∀ j, k ≤ j → xs[j]?.getD 0 = L[j]?.getD 0
theorem Rest.next {xs L : List Int} {k : Nat} (h : Rest xs L k) (hk : k < L.length) : Rest (xs.set k (-1)) L (k + 1) := by
  refine ⟨by simp [h.1], fun j hj => ?_⟩
  rw [getD_set (by rw [h.1]; exact hk), if_neg (by omega)]
  exact h.2 j (by omega)

set_option maxHeartbeats 2000000 in
theorem Apart_calls (n h x : Int) (w : World) (n0 : 0 ≤ n) (n1 : n ≤ 255) (h0 : 0 ≤ h) (h1 : h ≤ 255) :
    Calls Try.prog 11 #[.int .u8 n, .int .u8 h, .int .i64 x] w fun e w' => e = .returned (.bool true) ∧ Below w.heap.size w w' := by
  obtain ⟨K, hK⟩ : ∃ K : Nat, n % 60 + 1 = (K : Int) := ⟨(n % 60 + 1).toNat, by omega⟩
  have K0 : 1 ≤ K := by omega
  have K1 : K ≤ 60 := by omega
  have bX0 : 0 ≤ h % (K : Int) := Int.emod_nonneg h (show (K : Int) ≠ 0 by omega)
  have bX1 : h % (K : Int) < (K : Int) := Int.emod_lt_of_pos h (show (0 : Int) < K by omega)
  go_enter Try.func11, Try.ntmps11
  go_wp2_with fail
  refine (New_calls K w).mono ?_
  rintro e w1 ⟨b, rfl, h1, k1⟩
  have hn : newN (K : Int) = K := by unfold newN; rw [if_neg (by omega), if_neg (by omega)]; omega
  rw [hn] at h1
  clear hn
  have s1 := k1.size
  clear hK
  go_wp2_with fail
  go_loopw [9] (fun i wr => ∃ (k : Nat) (L : List Int), k ≤ K ∧ i = .int .i64 k ∧ Filled L K k ∧ TRep wr (fun i => w.heap.size ≤ i) b L ∧ Keep (fun _ => False) w wr) (fun i _ => K - (intOf i).toNat)
  case atStart => exact ⟨0, List.replicate K 0, Nat.zero_le _, rfl, ⟨by simp, fun j hj => by omega⟩, h1, k1⟩
  case round =>
    obtain ⟨k, L, hk, rfl, hf, hr, hkeep⟩ := hrel
    by_cases hlt : k < K
    · have hl := hf.1
      have e1 : setE L (k : Int) = 0 := setE_ok (by omega) (by omega)
      have e2 : sets L (k : Int) (100 + (k : Int)) = L.set k (100 + (k : Int)) := sets_ok _ (by omega) (by omega)
      have HL := Lib.hid hl
      clear hl
      go_wp2_with fail
      refine (Set_calls (k : Int) (100 + (k : Int)) wr hr).mono ?_
      rintro e w2 ⟨rfl, h2, k2⟩
      rw [e1]
      rw [e2] at h2
      clear e1 e2
      go_wp2_with fail
      go_roundw
      case rel => exact ⟨k + 1, _, by omega, by go_num, hf.next hlt, h2, hkeep.trans k2 (fun i h => .inr h)⟩
      case measure => simp [intOf]; omega
    · have hkK : k = K := by omega
      subst hkK
      have hl := hf.1
      have HL := Lib.hid hl
      clear hl hlt
      go_wp2_with fail
      generalize h % (k : Int) = X at bX0 bX1 ⊢
      have e1 : setE L X = 0 := setE_ok (by omega) (by have := HL.out; omega)
      have e2 : sets L X x = L.set X.toNat x := sets_ok _ (by omega) (by have := HL.out; omega)
      have e3 : gets (L.set X.toNat x) X = (x, 0) := by
        have := HL.out
        rw [gets_ok (by omega) (by simp; omega)]
        simp [show X.toNat < L.length by omega]
      refine (Set_calls X x wr hr).mono ?_
      rintro e w2 ⟨rfl, h2, k2⟩
      rw [e1]
      rw [e2] at h2
      clear e1 e2
      go_wp2_with fail
      refine (All_pre w2 h2 (by rw [List.length_set, HL.out]; omega)).mono ?_
      rintro e w3 ⟨g, rfl, hg0, hg, k3⟩
      rw [List.length_set, HL.out]
      have hneX := h2.bound
      have h3 : TRep w3 (fun i => w.heap.size ≤ i ∧ i < w2.heap.size) b (L.set X.toNat x) := hneX.keep k3 (fun _ _ h => h)
      clear hneX
      have hkeep3 : Keep (fun _ => False) w w3 := (hkeep.trans k2 (fun i h => .inr h)).trans k3 (fun i h => .inl h)
      have s2 := (hkeep.trans k2 (fun i h => .inr h)).size
      go_wp2_with fail
      obtain ⟨wo, ho⟩ : ∃ wo : World, wo = w2 := ⟨_, rfl⟩
      rw [← ho] at h3 hg0 s2
      clear ho k2 k3 h2 hr hkeep
      go_loopw [12] (fun i wr => ∃ (j : Nat) (xs : List Int), j ≤ k ∧ i = .int .i64 j ∧ Rest xs (L.set X.toNat x) j ∧ Pre wr g 3 (xs.map (Value.int .i64)) ∧ TRep wr (fun i => w.heap.size ≤ i ∧ i < wo.heap.size) b (L.set X.toNat x) ∧ Keep (fun _ => False) w wr) (fun i _ => k - (intOf i).toNat)
      case atStart => exact ⟨0, L.set X.toNat x, Nat.zero_le _, rfl, ⟨rfl, fun j _ => rfl⟩, hg, h3, hkeep3⟩
      case round =>
        clear hg h3 hkeep3
        obtain ⟨j, xs, hj, rfl, hre, hpre, htr, hkp⟩ := hrel
        by_cases hlt : j < k
        · have hxl : xs.length = k := by rw [hre.1, List.length_set, HL.out]
          have hcell : wr.cell? ⟨g, j, none⟩ = some (.int .i64 (xs[j]?.getD 0)) := by
            rw [hpre.cell (by simp; omega)]
            simp [show j < xs.length by omega]
          have hfz := hpre.frozen j
          have hv : xs[j]?.getD 0 = if X.toNat = j then x else 100 + (j : Int) := by
            rw [hre.2 j (Nat.le_refl _), getD_set (by rw [HL.out]; omega)]
            split
            · rfl
            · exact hf.2 j hlt
          have hnext := hpre.set_ j (by simp; omega) (.int .i64 (-1))
          rw [← List.map_set (f := Value.int .i64) (l := xs) (i := j) (a := -1)] at hnext
          have htr' : TRep (wr.setCell ⟨g, j, none⟩ (.int .i64 (-1))) (fun i => w.heap.size ≤ i ∧ i < wo.heap.size) b (L.set X.toNat x) :=
            htr.keep ((Keep.refl (fun i => i = g) wr).set_ (.inl rfl) _) (fun i h1 h2 => by omega)
          have hkp' : Keep (fun _ => False) w (wr.setCell ⟨g, j, none⟩ (.int .i64 (-1))) := hkp.set_ (.inr (by show w.heap.size ≤ g; omega)) _
          have hre' := hre.next (k := j) (by rw [List.length_set, HL.out]; exact hlt)
          obtain ⟨y, hy⟩ : ∃ y, xs[j]?.getD 0 = y := ⟨_, rfl⟩
          rw [hy] at hcell hv
          clear hpre htr hkp hre hxl hy
          have HV := Lib.hid hv
          clear hv
          by_cases hx : X.toNat = j
          · have hb : ((j : Int) != X) = false := by simp; omega
            have hb2 : ((j : Int) == X) = true := by simp; omega
            have hyx : y = x := by rw [HV.out, if_pos hx]
            have hb3 : (y != x) = false := by simp [hyx]
            clear hx hyx
            go_wp2
            go_roundw
            case rel => exact ⟨j + 1, _, by omega, by go_num, hre', hnext, htr', hkp'⟩
            case measure => simp [intOf]; omega
          · have hb : ((j : Int) != X) = true := by simp; omega
            have hb2 : ((j : Int) == X) = false := by simp; omega
            have hyx : y = 100 + (j : Int) := by rw [HV.out, if_neg hx]
            have hb3 : (y != 100 + (j : Int)) = false := by simp [hyx]
            clear hx hyx
            go_wp2
            go_roundw
            case rel => exact ⟨j + 1, _, by omega, by go_num, hre', hnext, htr', hkp'⟩
            case measure => simp [intOf]; omega
        · clear hre hpre
          go_wp2_with fail
          refine (Get_calls X wr htr).mono ?_
          rintro e w5 ⟨rfl, rfl⟩
          rw [e3]
          clear e3
          go_wp2_with fail
          refine (awake_calls wr).mono ?_
          rintro e w6 ⟨rfl, k6⟩
          go_wp2_with fail
          go_ret
          exact ⟨by simp, (hkp.trans k6 (fun i h => .inl h)).below (fun i h => h.elim)⟩
end Go.Proofs.Ythkajdbegdclmaa.Tab
