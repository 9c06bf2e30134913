/- TablePlays as a contract: it returns true, whatever the two lists hold. Condition: both slices read as lists. -/
import Derived.Test.YthkajdbegdclmaaTableLaws
set_option linter.unusedVariables false
set_option linter.unusedSimpArgs false
namespace Go.Proofs.Ythkajdbegdclmaa.Tab
open Go.RowKit Go.Proofs.Ythkajdbegdclmaa.W Go.Proofs.Ythkajdbegdclmaa.Sm

set_option maxHeartbeats 4000000 in
set_option maxRecDepth 100000 in
theorem Plays_calls {v1 v2 : Value} {l1 l2 : List Int} (n : Int) (w : World) (g1 : SL w (fun i => i < w.heap.size) .i64 v1 l1) (g2 : SL w (fun i => i < w.heap.size) .i64 v2 l2) :
    Calls Try.prog 9 #[.int .i64 n, v1, v2] w fun e w' => e = .returned (.bool true) ∧ Below w.heap.size w w' := by
  obtain ⟨A1, c1, rfl, hm1, hc1⟩ := g1
  obtain ⟨A2, c2, rfl, hm2, hc2⟩ := g2
  have HC1 := Lib.hid hc1
  have HC2 := Lib.hid hc2
  clear hc1 hc2
  obtain ⟨N, hN⟩ : ∃ N : Nat, newN n = N := ⟨_, rfl⟩
  have N1 : N ≤ 64 := by rw [← hN]; unfold newN; (repeat' split) <;> omega
  have hcut : cut n 0 64 = (N : Int) := by rw [← hN]; unfold cut newN; (repeat' split) <;> omega
  obtain ⟨i, hi, hz, hs, hb⟩ := info_parts info_int
  have hmk := fun W => run_mk (P := Try.prog) Try.underlying33 hi hz hs rfl (N : Int) (by omega) (by rw [hb]; omega) (by omega) W
  simp only [Int.toNat_natCast] at hmk
  clear hi hz hs hb
  go_enter Try.func9, Try.ntmps9
  go_wp2_with fail
  refine (New_calls n w).mono ?_
  rintro e w1 ⟨b, rfl, h1, k1⟩
  rw [hN] at h1
  have s1 := k1.size
  go_wp2_with fail
  refine (Cut_calls n 0 64 w1).mono ?_
  rintro e w2 ⟨rfl, rfl⟩
  rw [hcut]
  clear hcut hN
  have b1 := h1.bound
  have hB := Blk.new w1 3 (List.replicate N (Value.int .i64 0)).toArray
  have h2 := b1.keep ((Keep.refl (fun _ => False) w1).alloc (.cells (List.replicate N (Value.int .i64 0)).toArray 3)) (fun _ _ h => h)
  have k2 := k1.alloc (.cells (List.replicate N (Value.int .i64 0)).toArray 3)
  have hB' : Blk (w1.alloc (.cells (List.replicate N (Value.int .i64 0)).toArray 3)) w1.heap.size 3 (ints (List.replicate N 0)) := by simpa [ints] using hB
  clear h1 b1 hB k1
  go_wp2_with fail
  clear hmk
  obtain ⟨G, hG⟩ : ∃ G, w1.heap.size = G := ⟨_, rfl⟩
  rw [hG] at s1 h2 hB'
  rw [hG]
  clear hG
  go_loopw [9] (fun i wr => ∃ (k : Nat) (L : List Int), i = .int .i64 k ∧ k ≤ 80 ∧ L.length = N ∧ TRep wr (fun i => w.heap.size ≤ i ∧ i < G) b L ∧ Blk wr G 3 (ints L) ∧ Keep (fun _ => False) w wr) (fun i _ => 80 - (intOf i).toNat)
  case atStart => exact ⟨0, List.replicate N 0, rfl, by omega, by simp, h2, hB', k2⟩
  case round =>
    clear h2 hB' k2
    obtain ⟨k, L, rfl, hk, hL, hr, hw, hkp⟩ := hrel
    have HL := Lib.hid hL
    clear hL
    by_cases hc : k < l1.length ∧ k < l2.length ∧ k < 80
    · obtain ⟨hl1, hl2, hl3⟩ := hc
      obtain ⟨b1, o1, rfl, hb1, hlt1, hcell1⟩ := HC1.out (by omega)
      obtain ⟨b2, o2, rfl, hb2, hlt2, hcell2⟩ := HC2.out (by omega)
      have q1 : wr.cell? ⟨b1, o1 + k, none⟩ = some (.int .i64 (l1[k]?.getD 0)) := (World.cell?_of_block (hkp.block b1 hlt1 (fun h => h))).trans (hcell1 k hl1)
      have q2 : wr.cell? ⟨b2, o2 + k, none⟩ = some (.int .i64 (l2[k]?.getD 0)) := (World.cell?_of_block (hkp.block b2 hlt2 (fun h => h))).trans (hcell2 k hl2)
      obtain ⟨h, hh⟩ : ∃ h, l1[k]?.getD 0 = h := ⟨_, rfl⟩
      obtain ⟨x, hx⟩ : ∃ x, l2[k]?.getD 0 = x := ⟨_, rfl⟩
      rw [hh] at q1
      rw [hx] at q2
      clear hcell1 hcell2 hh hx
      by_cases ht : 0 ≤ h ∧ h < (N : Int)
      · obtain ⟨ht0, ht1⟩ := ht
        have e1 : gets L h = (L[h.toNat]?.getD 0, 0) := gets_ok ht0 (by rw [HL.out]; exact ht1)
        have e2 : setE L h = 0 := setE_ok ht0 (by rw [HL.out]; exact ht1)
        have e3 : sets L h x = L.set h.toNat x := sets_ok _ ht0 (by rw [HL.out]; exact ht1)
        obtain ⟨y, hy⟩ : ∃ y, L[h.toNat]?.getD 0 = y := ⟨_, rfl⟩
        rw [hy] at e1
        go_wp2_with fail
        refine (Get_calls h wr hr).mono ?_
        rintro e w3 ⟨rfl, rfl⟩
        rw [e1]
        clear e1
        go_wp2_with fail
        refine (Set_calls h x wr hr).mono ?_
        rintro e w4 ⟨rfl, h4, k4⟩
        rw [e2]
        rw [e3] at h4
        clear e2 e3
        have hw4 := k4.blk hw (by omega)
        have c4 : w4.cell? ⟨G, h.toNat, none⟩ = some (.int .i64 y) := by
          rw [hw4.cell, ints_get (by rw [HL.out]; omega), hy]
        have f4 := hw4.frozen h.toNat
        have q4 : w4.cell? ⟨b2, o2 + k, none⟩ = some (.int .i64 x) := (World.cell?_of_block (k4.block b2 (Nat.lt_of_lt_of_le hlt2 hkp.size) (fun h => by have := h.1; omega))).trans q2
        have hkp4 := hkp.trans k4 (fun i h => .inr h.1)
        have hw5 := hw4.set_ h.toNat (.int .i64 x)
        rw [ints_set] at hw5
        have h5 := h4.keep ((Keep.refl (fun i => i = G) w4).set_ (p := ⟨G, h.toNat, none⟩) (.inl rfl) (.int .i64 x)) (fun i a b => by omega)
        have hkp5 := hkp4.set_ (p := ⟨G, h.toNat, none⟩) (.inr s1) (.int .i64 x)
        clear hr hw hkp k4 h4 hw4 hkp4 hy
        go_wp2_with fail
        refine (All_calls _ h5).mono ?_
        rintro e w6 ⟨A, rfl, h6, k6⟩
        go_wp2_with fail
        have hw6 := k6.blk hw5 (fun h => h)
        have hlen : (L.set h.toNat x).length = N := by rw [List.length_set]; exact HL.out
        rw [hlen] at h6
        rw [HL.out]
        have hS : SL w6 (fun i => i = G) .i64 (.slice (some ⟨G, 0, none⟩) N N) (L.set h.toNat x) := by
          rw [← hlen]; exact SL.of_blk hw6 rfl (by rw [hlen]; omega)
        have h7 := h5.keep k6 (fun _ _ h => h)
        have hkp7 := hkp5.trans k6 (fun i h => .inl h)
        clear h5 hw5 k6 hkp5
        refine (Ints_calls _ h6 hS).mono ?_
        rintro e w7 ⟨rfl, m, rfl⟩
        rw [show decide (L.set h.toNat x = L.set h.toNat x) = true from by simp]
        clear h6 hS
        go_wp2_with fail
        go_roundw
        case rel => exact ⟨k + 1, L.set h.toNat x, by go_num, by omega, hlen, h7, hw6, hkp7.drewN m⟩
        case measure => simp [intOf]; omega
      · have ht' : ¬ (0 ≤ h ∧ h < (L.length : Int)) := by rw [HL.out]; exact ht
        have e1 := gets_no ht'
        have e2 := setE_no ht'
        have e3 := sets_no x ht'
        clear ht'
        have tail : ∀ W : World, True := fun _ => trivial
        by_cases hneg : 0 ≤ h
        · have hge : ¬ h < (N : Int) := fun h' => ht ⟨hneg, h'⟩
          clear ht tail
          go_wp2_with fail
          refine (Get_calls h wr hr).mono ?_
          rintro e w3 ⟨rfl, rfl⟩
          rw [e1]
          clear e1
          go_wp2_with fail
          refine (Set_calls h x wr hr).mono ?_
          rintro e w4 ⟨rfl, h4, k4⟩
          rw [e2]
          rw [e3] at h4
          clear e2 e3
          have hw4 := k4.blk hw (by omega)
          have hkp4 := hkp.trans k4 (fun i h => .inr h.1)
          clear hr hw hkp k4
          go_wp2_with fail
          refine (All_calls _ h4).mono ?_
          rintro e w6 ⟨A, rfl, h6, k6⟩
          go_wp2_with fail
          have hw6 := k6.blk hw4 (fun h => h)
          have hlen := HL.out
          rw [hlen] at h6
          rw [hlen]
          have hS : SL w6 (fun i => i = G) .i64 (.slice (some ⟨G, 0, none⟩) N N) L := by
            rw [← hlen]; exact SL.of_blk hw6 rfl (by rw [hlen]; omega)
          have h7 := h4.keep k6 (fun _ _ h => h)
          have hkp7 := hkp4.trans k6 (fun i h => .inl h)
          clear h4 hw4 k6 hkp4 hlen
          refine (Ints_calls _ h6 hS).mono ?_
          rintro e w7 ⟨rfl, m, rfl⟩
          rw [show decide (L = L) = true from by simp]
          clear h6 hS
          go_wp2_with fail
          go_roundw
          case rel => exact ⟨k + 1, L, by go_num, by omega, HL.out, h7, hw6, hkp7.drewN m⟩
          case measure => simp [intOf]; omega
        · clear ht tail
          go_wp2_with fail
          refine (Get_calls h wr hr).mono ?_
          rintro e w3 ⟨rfl, rfl⟩
          rw [e1]
          clear e1
          go_wp2_with fail
          refine (Set_calls h x wr hr).mono ?_
          rintro e w4 ⟨rfl, h4, k4⟩
          rw [e2]
          rw [e3] at h4
          clear e2 e3
          have hw4 := k4.blk hw (by omega)
          have hkp4 := hkp.trans k4 (fun i h => .inr h.1)
          clear hr hw hkp k4
          go_wp2_with fail
          refine (All_calls _ h4).mono ?_
          rintro e w6 ⟨A, rfl, h6, k6⟩
          go_wp2_with fail
          have hw6 := k6.blk hw4 (fun h => h)
          have hlen := HL.out
          rw [hlen] at h6
          rw [hlen]
          have hS : SL w6 (fun i => i = G) .i64 (.slice (some ⟨G, 0, none⟩) N N) L := by
            rw [← hlen]; exact SL.of_blk hw6 rfl (by rw [hlen]; omega)
          have h7 := h4.keep k6 (fun _ _ h => h)
          have hkp7 := hkp4.trans k6 (fun i h => .inl h)
          clear h4 hw4 k6 hkp4 hlen
          refine (Ints_calls _ h6 hS).mono ?_
          rintro e w7 ⟨rfl, m, rfl⟩
          rw [show decide (L = L) = true from by simp]
          clear h6 hS
          go_wp2_with fail
          go_roundw
          case rel => exact ⟨k + 1, L, by go_num, by omega, HL.out, h7, hw6, hkp7.drewN m⟩
          case measure => simp [intOf]; omega
    · by_cases hl1 : k < l1.length
      · by_cases hl2 : k < l2.length
        · have hl3 : ¬ k < 80 := fun h => hc ⟨hl1, hl2, h⟩
          clear hc
          go_wp2_with fail
          refine (awake_calls wr).mono ?_
          rintro e w6 ⟨rfl, k6⟩
          have h6 := hr.keep k6 (fun _ _ h => h)
          go_wp2_with fail
          refine (All_calls _ h6).mono ?_
          rintro e w7 ⟨A, rfl, h7, k7⟩
          rw [HL.out]
          go_wp2_with fail
          go_ret
          exact ⟨by simp, ((hkp.trans k6 (fun i h => .inl h)).trans k7 (fun i h => .inl h)).below (fun i h => h.elim)⟩
        · clear hc
          go_wp2_with fail
          refine (awake_calls wr).mono ?_
          rintro e w6 ⟨rfl, k6⟩
          have h6 := hr.keep k6 (fun _ _ h => h)
          go_wp2_with fail
          refine (All_calls _ h6).mono ?_
          rintro e w7 ⟨A, rfl, h7, k7⟩
          rw [HL.out]
          go_wp2_with fail
          go_ret
          exact ⟨by simp, ((hkp.trans k6 (fun i h => .inl h)).trans k7 (fun i h => .inl h)).below (fun i h => h.elim)⟩
      · clear hc
        go_wp2_with fail
        refine (awake_calls wr).mono ?_
        rintro e w6 ⟨rfl, k6⟩
        have h6 := hr.keep k6 (fun _ _ h => h)
        go_wp2_with fail
        refine (All_calls _ h6).mono ?_
        rintro e w7 ⟨A, rfl, h7, k7⟩
        rw [HL.out]
        go_wp2_with fail
        go_ret
        exact ⟨by simp, ((hkp.trans k6 (fun i h => .inl h)).trans k7 (fun i h => .inl h)).below (fun i h => h.elim)⟩
end Go.Proofs.Ythkajdbegdclmaa.Tab
