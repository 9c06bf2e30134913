/- RemsetLater as a contract. Condition: the lists read as lists. -/
import Derived.Test.YtpohemiejbjpnaaRemsetPure
import Derived.Deep.LoopGhost
set_option linter.unusedVariables false
set_option linter.unusedSimpArgs false
namespace Go.Proofs.Ytpohemiejbjpnaa.Re
open Go.RowKit Go.Proofs.Ytpohemiejbjpnaa.W Go.Proofs.Ytpohemiejbjpnaa.Cd Go.Proofs.Ytpohemiejbjpnaa.Bf Go.Proofs.Ytpohemiejbjpnaa.Sm

set_option maxHeartbeats 4000000 in
set_option maxRecDepth 20000 in
theorem Later_calls {v1 v2 : Value} {l1 l2 : List Int} (q : Int) (w : World) (g1 : SL w (fun i => i < w.heap.size) .u8 v1 l1) (q1 : ∀ x ∈ l1, 0 ≤ x ∧ x ≤ 255) (g2 : SL w (fun i => i < w.heap.size) .u8 v2 l2) (q2 : ∀ x ∈ l2, 0 ≤ x ∧ x ≤ 255) (b0 : 0 ≤ q) (b1 : q ≤ 255) :
    Calls Try.prog 6 #[v1, v2, .int .u8 q] w fun e w' => e = .returned (.bool true) ∧ Below w.heap.size w w' := by
  obtain ⟨A1, c1, rfl, hm1, hc1⟩ := g1
  obtain ⟨A2, c2, rfl, hm2, hc2⟩ := g2
  have HC1 := Lib.hid hc1
  have Q1 := Lib.hid q1
  have HC2 := Lib.hid hc2
  have Q2 := Lib.hid q2
  clear hc1 q1 hc2 q2
  have y0 : 0 ≤ q % 9 := by omega
  have y1 : q % 9 < 9 := by omega
  go_enter Try.func6, Try.ntmps6
  go_wp2_with fail
  generalize q % 9 = mo at y0 y1 ⊢
  refine (New_sep 0 256 16 mo (Sep.nil w)).mono ?_
  rintro e w1 ⟨b, rfl, h1⟩
  have hz : ∃ s : RS, s.left = 0 ∧ Sep w w1 [Rms b s] := ⟨_, by simp [RS.left, Cd.none_, rep_cnt], h1⟩
  obtain ⟨s0, hs0, h⟩ := hz
  have HS0 := Lib.hid hs0
  clear h1 hs0
  go_wp2_with fail
  go_loopg [8] 60 (fun gk i wr => ∃ (k : Nat) (s : RS), k + gk = 60 ∧ i = .int .i64 k ∧ s.left = 0 ∧ Sep w wr [Rms b s])
  case atStart => exact ⟨0, s0, rfl, rfl, HS0.out, h⟩
  case round =>
    clear h HS0 s0
    obtain ⟨k, s, hk, rfl, hs, h⟩ := hrel
    have HS := Lib.hid hs
    clear hs
    by_cases hc : k < l1.length ∧ k < 60
    · obtain ⟨hl1, hl2⟩ := hc
      obtain ⟨bb, oo, rfl, hb1, hlt1, hcell1⟩ := HC1.out (by omega)
      have d0 : wr.cell? ⟨bb, oo + k, none⟩ = some (.int .u8 (l1[k]?.getD 0)) := (World.cell?_of_block (h.block bb hlt1)).trans (hcell1 k hl1)
      have hx := Q1.out (l1[k]?.getD 0) (by rw [List.getElem?_eq_getElem hl1]; exact List.getElem_mem _)
      generalize l1[k]?.getD 0 = x at d0 hx
      obtain ⟨hx0, hx1⟩ := hx
      clear hcell1
      go_wp2_with fail
      refine (Add_sep x h 0 rfl (by omega) (by omega)).mono ?_
      rintro e w3 ⟨rfl, h3⟩
      have hl := (add_left s x).1
      generalize s.inn x = inb
      go_wp2_with fail
      go_roundg (gk - 1)
      case measure => omega
      case rel => exact ⟨k + 1, s.add x, by omega, by go_num, by rw [(add_left s x).1]; exact HS.out, h3⟩
    · rcases (by omega : ¬ k < l1.length ∨ (k < l1.length ∧ ¬ k < 60)) with hx | ⟨hx, hx'⟩
      all_goals
        clear hc
        go_wp2_with fail
        refine (Flip_sep h 0 rfl).mono ?_
        rintro e w3 ⟨rfl, h3⟩
        rw [show decide (s.left ≤ 0) = true from by rw [HS.out]; rfl]
        replace h3 : Sep w w3 [Rms b s.flip] := h3
        go_wp2_with fail
        refine (Left_sep h3 0 rfl).mono ?_
        rintro e w4 ⟨rfl, h4⟩
        obtain ⟨n, hn⟩ : ∃ n, s.flip.left = n := ⟨_, rfl⟩
        have hn0 : 0 ≤ n := by rw [← hn]; exact (left_nonneg _).1
        have hn9 : n ≤ 2097153 := by rw [← hn]; exact (Rms_b h4 0 rfl).1
        rw [hn]
        have HN := Lib.hid hn
        clear hn h h3
        go_wp2_with fail
        go_loopg [10] 60 (fun gk i wx => ∃ (k : Nat) (s : RS), k + gk = 60 ∧ i = .int .i64 k ∧ s.left = n ∧ Sep w wx [Rms b s])
        case atStart => exact ⟨0, s.flip, rfl, rfl, HN.out, h4⟩
        case round =>
          clear h4 HN HS s hk
          obtain ⟨k, s, hk, rfl, hs, h⟩ := hrel
          have HS := Lib.hid hs
          clear hs
          by_cases hc : k < l2.length ∧ k < 60
          · obtain ⟨hl1, hl2⟩ := hc
            obtain ⟨bb, oo, rfl, hb1, hlt1, hcell1⟩ := HC2.out (by omega)
            have d0 : wr.cell? ⟨bb, oo + k, none⟩ = some (.int .u8 (l2[k]?.getD 0)) := (World.cell?_of_block (h.block bb hlt1)).trans (hcell1 k hl1)
            have hx := Q2.out (l2[k]?.getD 0) (by rw [List.getElem?_eq_getElem hl1]; exact List.getElem_mem _)
            generalize l2[k]?.getD 0 = x at d0 hx
            obtain ⟨hx0, hx1⟩ := hx
            clear hcell1
            go_wp2_with fail
            refine (Add_sep x h 0 rfl (by omega) (by omega)).mono ?_
            rintro e w3 ⟨rfl, h3⟩
            generalize s.inn x = inb
            go_wp2_with fail
            go_roundg (gk - 1)
            case measure => omega
            case rel => exact ⟨k + 1, s.add x, by omega, by go_num, by rw [(add_left s x).1]; exact HS.out, h3⟩
          · rcases (by omega : ¬ k < l2.length ∨ (k < l2.length ∧ ¬ k < 60)) with hx | ⟨hx, hx'⟩
            all_goals
              clear hc
              go_wp2_with fail
              refine (Left_sep h 0 rfl).mono ?_
              rintro e w5 ⟨rfl, h5⟩
              rw [HS.out]
              have q1 : (n != n) = false := by simp
              go_wp2_with fail
              refine (Len_sep h5 0 rfl).mono ?_
              rintro e w6 ⟨rfl, h6⟩
              obtain ⟨m, hm⟩ : ∃ m, s.here = m := ⟨_, rfl⟩
              rw [hm]
              have HM := Lib.hid hm
              clear hm h h5 q1
              go_wp2_with fail
              go_loopg [12] n.toNat (fun gj i wx => ∃ (j : Nat) (s : RS), j + gj = n.toNat ∧ i = .int .i64 j ∧ s.left = n - j ∧ s.here = m ∧ Sep w wx [Rms b s])
              case atStart => exact ⟨0, s, by omega, rfl, by rw [HS.out]; simp, HM.out, h6⟩
              case round =>
                clear h6 HM HS s hk
                obtain ⟨j, s, hj, rfl, hs, hm, h⟩ := hrel
                have HS := Lib.hid hs
                have HM := Lib.hid hm
                have HJ := Lib.hid hj
                clear hs hm hj
                by_cases hjn : (j : Int) < n
                · have hns := next_some s (by rw [HS.out]; omega)
                  have HNS := Lib.hid hns
                  clear hns
                  have hsaid : ∃ x y z, s.said = ((x, y), (z, true)) := ⟨s.said.1.1, s.said.1.2, s.said.2.1, by rw [← HNS.out.1]⟩
                  obtain ⟨x, y, z, hsaid⟩ := hsaid
                  have HSD := Lib.hid hsaid
                  clear hsaid
                  go_wp2_with fail
                  refine (Next_sep h 0 rfl).mono ?_
                  rintro e w7 ⟨rfl, h7⟩
                  rw [HSD.out]
                  replace h7 : Sep w w7 [Rms b s.next] := h7
                  go_wp2_with fail
                  go_roundg (gk - 1)
                  case measure => have := HJ.out; omega
                  case rel => exact ⟨j + 1, s.next, by have := HJ.out; omega, by go_num, by have h1 := HNS.out.2.1; have h2 := HS.out; rw [h1, h2]; push_cast; omega, by rw [HNS.out.2.2]; exact HM.out, h7⟩
                · have hl0 : s.left = 0 := by have := (left_nonneg s).1; have := HS.out; have := HJ.out; omega
                  have hnn := next_none s hl0
                  have hfl := flip_left s hl0
                  have HNN := Lib.hid hnn
                  have HFL := Lib.hid hfl
                  have HL0 := Lib.hid hl0
                  clear hl0 hnn hfl
                  go_wp2_with fail
                  refine (Next_sep h 0 rfl).mono ?_
                  rintro e w7 ⟨rfl, h7⟩
                  rw [HNN.out.1]
                  rw [HNN.out.2] at h7
                  replace h7 : Sep w w7 [Rms b s] := h7
                  go_wp2_with fail
                  refine (awake_sep h7).mono ?_
                  rintro e w8 ⟨rfl, h8⟩
                  go_wp2_with fail
                  refine (Left_sep h8 0 rfl).mono ?_
                  rintro e w9 ⟨rfl, h9⟩
                  rw [HL0.out]
                  clear h h7 h8
                  go_wp2_with fail
                  refine (Len_sep h9 0 rfl).mono ?_
                  rintro e w10 ⟨rfl, h10⟩
                  rw [HM.out]
                  have q1 : (m == m) = true := by simp
                  go_wp2_with fail
                  refine (Flip_sep h10 0 rfl).mono ?_
                  rintro e w11 ⟨rfl, h11⟩
                  rw [show decide (s.left ≤ 0) = true from by rw [HL0.out]; rfl]
                  replace h11 : Sep w w11 [Rms b s.flip] := h11
                  clear h9 h10
                  go_wp2_with fail
                  refine (Left_sep h11 0 rfl).mono ?_
                  rintro e w12 ⟨rfl, h12⟩
                  rw [HFL.out.1, HM.out]
                  go_wp2_with fail
                  refine (Len_sep h12 0 rfl).mono ?_
                  rintro e w13 ⟨rfl, h13⟩
                  rw [HFL.out.2]
                  go_wp2_with fail
                  go_ret
                  exact ⟨by simp, h13.below⟩
end Go.Proofs.Ytpohemiejbjpnaa.Re
