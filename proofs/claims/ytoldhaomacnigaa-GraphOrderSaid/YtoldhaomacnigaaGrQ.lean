/- GraphOrder as a contract. Condition: the list reads as a list. -/
import Derived.Test.YtoldhaomacnigaaGrP
set_option linter.unusedVariables false
set_option linter.unusedSimpArgs false
namespace Go.Proofs.Ytoldhaomacnigaa.Gr
open Go.RowKit Go.Proofs.Ytoldhaomacnigaa.W Go.Proofs.Ytoldhaomacnigaa Go.Proofs.Ytoldhaomacnigaa.Sm
set_option maxRecDepth 20000 in
set_option maxHeartbeats 4000000 in
theorem Order_calls {v1 : Value} {l1 : List A5} (a0 : Int) (w : World) (p0 : 0 ≤ a0 ∧ a0 ≤ 255) (g1 : SS w (fun i => i < w.heap.size) A5.cells 5 v1 l1) (q1 : ∀ x ∈ l1, A5.wf x) :
    Calls Try.prog 5 #[.int .u8 a0, v1] w fun e w' => e = .returned (.bool true) ∧ Below w.heap.size w w' := by
  obtain ⟨A1, c1, rfl, hm1, hc1⟩ := g1
  have HC1 := Lib.hid hc1
  have Q1 := Lib.hid q1
  clear hc1 q1
  obtain ⟨p00, p01⟩ := p0
  have r0 : 0 ≤ a0 % 10 := by omega
  have r1 : a0 % 10 < 10 := by omega
  go_enter Try.func5, Try.ntmps5
  go_wp2_with fail
  obtain ⟨n, hn⟩ : ∃ n : Nat, a0 % 10 + 1 = n := ⟨(a0 % 10 + 1).toNat, by omega⟩
  have n1 : n ≤ 10 := by omega
  rw [hn]
  clear hn r0 r1 p00 p01
  refine (New_sep n 8 (Sep.nil w)).mono ?_
  rintro e w1 ⟨g, rfl, h1⟩
  have H1 := Lib.hid h1
  clear h1
  go_wp2_with fail
  go_loopg [6] 80 (fun gk z wr => ∃ (j : Nat) (t : GS), j + gk = 80 ∧ z = .int .i64 j ∧ Sep w wr [Gph g t] ∧ t.nodes.length ≤ j)
  case atStart => exact ⟨0, gnew n 8, by omega, rfl, H1.out, by simp [gnew]⟩
  case round =>
    clear H1
    obtain ⟨j, t, hj, rfl, h, hno⟩ := hrel
    have HJ := Lib.hid hj
    have hj80 : j ≤ 80 := by omega
    clear hj
    by_cases hc : j < l1.length ∧ j < 80
    · obtain ⟨hlt, hlt2⟩ := hc
      obtain ⟨b, o, x, hx, rfl, x0, x1, x2, x3, x4⟩ := step_at HC1.out h.keep0 hlt
      have hwf := Q1.out x (List.mem_of_getElem? hx)
      have hgl := gdo_len t x
      have hdo := Do_sep x hwf h 0 rfl
      have HD := Lib.hid hdo
      have HGL := Lib.hid hgl
      clear h hdo hx hgl hwf
      go_wp2_with fail
      refine HD.out.mono ?_
      rintro e w2 ⟨rfl, h2⟩
      have H2 := Lib.hid h2
      clear h2 HD
      go_wp2_with fail
      go_roundg (gk - 1)
      case measure => have := HJ.out; omega
      case rel => exact ⟨j + 1, _, by have := HJ.out; omega, by go_num, H2.out, by have := HGL.out.2.1; omega⟩
    · have hok := Gph_ok h 0 rfl
      have hnd := Nodes_sep h 0 rfl (by omega)
      obtain ⟨R, hR⟩ : ∃ R, live t = R := ⟨_, rfl⟩
      have hst := ord_start hok
      have hRok := live_ok hok
      rw [hR] at hst hRok
      have hRl : R.length ≤ 80 := by have := hRok.len; omega
      have hsh : shown t = R.map fun x => ((nod t x).refs.map (fun r => ((num R r : Nat) : Int)), (nod t x).scal) := by unfold shown; rw [hR]
      have hhe : helds t = t.hs.map fun r => ((num R r : Nat) : Int) := by unfold helds; rw [hR]
      have hsl : (shown t).length = R.length := by rw [hsh]; simp
      have hhl : (helds t).length = t.hs.length := by rw [hhe]; simp
      have hhs := hok.hlen
      have HOK := Lib.hid hok
      have HND := Lib.hid hnd
      have HST := Lib.hid hst
      have HRO := Lib.hid hRok
      have HSH := Lib.hid hsh
      have HHE := Lib.hid hhe
      have HSL := Lib.hid hsl
      have HHL := Lib.hid hhl
      have HR := Lib.hid hR
      clear h hok hnd hst hRok hsh hhe hsl hhl hR
      rcases (by omega : ¬ j < l1.length ∨ (j < l1.length ∧ ¬ j < 80)) with hx | ⟨hx, hx'⟩
      all_goals
        clear hc
        go_wp2_with fail
        refine HND.out.mono ?_
        rintro e w3 ⟨v, hv, rfl, h3⟩
        have hns := nodes_of_part h3 1 rfl
        obtain ⟨A2, c2, rfl, _⟩ := hns.len
        obtain ⟨A3, c3, rfl, _, d3⟩ := ints_of_part h3 2 rfl
        rw [HSL.out] at hns ⊢
        rw [HHL.out] at d3 ⊢
        have D3 := Lib.hid d3
        have NS' := Lib.hid hns
        have H3 := Lib.hid h3
        clear h3 d3 HND hns
        go_wp2_with fail
        go_loopg [9, 10] t.hs.length (fun gk y z wr => ∃ (k : Nat), k + gk = t.hs.length ∧ z = .int .i64 k ∧ y = .int .i64 (((meetL [] (t.hs.take k)).length + 1 : Nat) : Int) ∧ w3 = wr)
        case atStart => exact ⟨0, by omega, rfl, rfl, rfl⟩
        case round =>
          clear HJ
          obtain ⟨k, hk, rfl, rfl, rfl⟩ := hrel
          have HK := Lib.hid hk
          have hkl : k ≤ t.hs.length := by omega
          clear hk
          have hcl : (meetL [] (t.hs.take k)).length ≤ 80 := by
            have := ((OutOk.nil _).meet (l := t.hs.take k) (fun x hx => HOK.out.hs x (List.mem_of_mem_take hx))).len
            omega
          by_cases hlt : k < t.hs.length
          · obtain ⟨y, hy, y1, y2, y3⟩ := ord_list HOK.out HR.out.symm t.hs HST.out.pre k hlt
            obtain ⟨b3, o3, rfl, _, _, d3⟩ := D3.out (by omega)
            have d4 := d3 k hlt
            rw [HHE.out, hy] at d4
            clear d3 hy
            generalize (meetL [] (t.hs.take k)).length = q at *
            by_cases hyq : y = q + 1
            · have hs' := y2 hyq
              subst hyq
              have HS' := Lib.hid hs'
              clear y2 y3 hs'
              go_wp2_with fail
              go_roundg (gk - 1)
              case measure => have := HK.out; omega
              case rel => exact ⟨k + 1, by have := HK.out; omega, by go_num, by rw [HS'.out]; go_num, rfl⟩
            · have hs' := y3 hyq
              have HS' := Lib.hid hs'
              have hne : ((y : Int) == ((q + 1 : Nat) : Int)) = false := by simp; omega
              have hle : (y : Int) ≤ ((q + 1 : Nat) : Int) := by omega
              clear y2 y3 hs' hyq
              go_wp2_with fail
              go_roundg (gk - 1)
              case measure => have := HK.out; omega
              case rel => exact ⟨k + 1, by have := HK.out; omega, by go_num, by rw [HS'.out]; first | rfl | go_num, rfl⟩
          · have hke : k = t.hs.length := by omega
            have HKE := Lib.hid hke
            clear hke
            go_wp2_with fail
            go_loopg [9, 11] R.length (fun gk y z wr => ∃ (i : Nat) (out : List Nat), i + gk = R.length ∧ z = .int .i64 i ∧ OrdAt t R i out ∧ y = .int .i64 ((out.length + 1 : Nat) : Int) ∧ w3 = wr)
            case atStart => exact ⟨0, _, by omega, rfl, HST.out, by rw [HKE.out, List.take_length], rfl⟩
            case round =>
              clear HK hkl hcl hlt HKE
              obtain ⟨i, out, hi, rfl, ho, rfl, rfl⟩ := hrel
              have HI := Lib.hid hi
              have hil : i ≤ R.length := by omega
              have hol : out.length ≤ 80 := by obtain ⟨m, hm⟩ := ho.pre; have := congrArg List.length hm; simp at this; omega
              have HO := Lib.hid ho
              clear hi ho
              obtain ⟨gz, rfl⟩ : ∃ x, x = gk := ⟨_, rfl⟩
              by_cases hlt : i < R.length
              · obtain ⟨b3, o3, k3, r3, e3, p3, _, s3, _⟩ := NS_row NS'.out (j := i) (by rw [HSL.out]; exact hlt)
                simp only [HSH.out, List.getElem_map] at s3
                have hnx := HO.out.next HOK.out hlt
                obtain ⟨L, hL⟩ : ∃ L, (nod t R[i]).refs = L := ⟨_, rfl⟩
                rw [hL] at s3 hnx
                rw [HSL.out] at e3
                simp only [Value.slice.injEq, true_and] at e3
                obtain ⟨rfl, rfl⟩ := e3
                obtain ⟨P3, m3, ep3, l3, f3⟩ := s3
                rw [ep3] at p3
                rw [List.length_map] at p3 l3 f3
                have hLl : L.length ≤ 64 := by
                  rw [← hL]
                  have := (nod_at HOK.out (HRO.out.pos _ (List.getElem_mem hlt)) (HRO.out.le _ (List.getElem_mem hlt))).2.2.2
                  omega
                have hLr : ∀ x ∈ L, x ≤ t.nodes.length := by
                  rw [← hL]
                  exact (nod_at HOK.out (HRO.out.pos _ (List.getElem_mem hlt)) (HRO.out.le _ (List.getElem_mem hlt))).2.1
                have hoo : OutOk t.nodes.length out := by obtain ⟨_, _, _, _, h⟩ := HO.out; exact h
                have HOO := Lib.hid hoo
                have HLR := Lib.hid hLr
                have F3 := Lib.hid f3
                have HNX := Lib.hid hnx
                clear f3 hL ep3 hnx hoo hLr
                go_wp2_with fail
                go_loopg [9, 12] L.length (fun gk y z wr => ∃ (k : Nat), k + gk = L.length ∧ z = .int .i64 k ∧ y = .int .i64 (((meetL out (L.take k)).length + 1 : Nat) : Int) ∧ w3 = wr)
                case atStart => exact ⟨0, by omega, rfl, rfl, rfl⟩
                case round =>
                  obtain ⟨k, hk, rfl, rfl, rfl⟩ := hrel
                  have HK := Lib.hid hk
                  have hkl : k ≤ L.length := by omega
                  clear hk
                  have hcl : (meetL out (L.take k)).length ≤ 80 := by
                    have := (HOO.out.meet (l := L.take k) (fun x hx => HLR.out x (List.mem_of_mem_take hx))).len
                    omega
                  by_cases hlt2 : k < L.length
                  · obtain ⟨y, hy, y1, y2, y3⟩ := ord_list HOK.out HR.out.symm L HNX.out.pre k hlt2
                    obtain ⟨b4, o4, rfl, _, _, d3⟩ := F3.out (by omega)
                    have d4 := d3 k hlt2
                    rw [hy] at d4
                    clear d3 hy
                    generalize (meetL out (L.take k)).length = q at *
                    by_cases hyq : y = q + 1
                    · have hs' := y2 hyq
                      subst hyq
                      have HS' := Lib.hid hs'
                      clear y2 y3 hs'
                      go_wp2_with fail
                      go_roundg (gk - 1)
                      case measure => have := HK.out; omega
                      case rel => exact ⟨k + 1, by have := HK.out; omega, by go_num, by rw [HS'.out]; go_num, rfl⟩
                    · have hs' := y3 hyq
                      have HS' := Lib.hid hs'
                      have hne : ((y : Int) == ((q + 1 : Nat) : Int)) = false := by simp; omega
                      have hle : (y : Int) ≤ ((q + 1 : Nat) : Int) := by omega
                      clear y2 y3 hs' hyq
                      go_wp2_with fail
                      go_roundg (gk - 1)
                      case measure => have := HK.out; omega
                      case rel => exact ⟨k + 1, by have := HK.out; omega, by go_num, by rw [HS'.out]; first | rfl | go_num, rfl⟩
                  · have hke : k = L.length := by omega
                    have HKE := Lib.hid hke
                    clear hke
                    go_wp2_with fail
                    go_roundg (gz - 1)
                    case measure => have := HI.out; omega
                    case rel => exact ⟨i + 1, _, by have := HI.out; omega, by go_num, HNX.out, by rw [HKE.out, List.take_length], rfl⟩
              · have hie : i = R.length := by omega
                have hRe : out = R := by have := HO.out; rw [hie] at this; exact this.done
                subst hRe
                subst hie
                clear HO
                go_wp2_with fail
                refine (awake_calls _).mono ?_
                rintro e w4 ⟨rfl, k4⟩
                have H4 := Lib.hid (H3.out.stay k4)
                clear k4 H3 D3 NS'
                go_wp2_with fail
                go_ret
                exact ⟨rfl, H4.out.below⟩
end Go.Proofs.Ytoldhaomacnigaa.Gr
