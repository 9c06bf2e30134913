/- The contract of Same, where both graphs are told alike. No condition. -/
import Derived.Test.YtoldhaomacnigaaSmall
import Derived.Test.YtoldhaomacnigaaNodesP
import Derived.Deep.LoopGhost
set_option linter.unusedVariables false
set_option linter.unusedSimpArgs false
namespace Go.Proofs.Ytoldhaomacnigaa.Sm
open Go.RowKit Go.Proofs.Ytoldhaomacnigaa.W
theorem NS_row {w : World} {ok : Nat → Prop} {v : Value} {L : List (List Int × List Int)} (h : NS w ok v L) {j : Nat} (hj : j < L.length) : ∃ b o c r, v = .slice (some ⟨b, o, none⟩) L.length c ∧ w.cell? ⟨b, o + j * 2, none⟩ = some (N2.pv r) ∧ w.cell? ⟨b, o + j * 2 + 1, none⟩ = some r.sv ∧ SL w ok .i64 r.pv (L[j]'hj).1 ∧ SL w ok .u64 r.sv (L[j]'hj).2 := by
  obtain ⟨rows, e, ⟨A, c, h1, h2, h3⟩, h4⟩ := h
  have hl : L.length = rows.length := by rw [← e]; simp
  obtain ⟨b, o, rfl, _, _, hc⟩ := h3 (by omega)
  have hr : rows[j]? = some (rows[j]'(by omega)) := List.getElem?_eq_getElem (by omega)
  refine ⟨b, o, c, rows[j]'(by omega), by rw [hl]; exact h1, hc j _ hr 0 _ rfl, hc j _ hr 1 _ rfl, ?_⟩
  have h5 := h4 _ (List.getElem_mem (by omega : j < rows.length))
  subst e
  simpa using h5
set_option maxHeartbeats 4000000 in
set_option maxRecDepth 100000 in
theorem Same_calls {ok1 ok2 ok3 ok4 : Nat → Prop} {v1 v2 x1 x2 : Value} {L : List (List Int × List Int)} {H : List Int} (w : World) (h1 : NS w ok1 v1 L) (h2 : SL w ok2 .i64 x1 H) (h3 : NS w ok3 v2 L) (h4 : SL w ok4 .i64 x2 H) :
    Calls Try.prog 18 #[v1, x1, v2, x2] w fun e w' => e = .returned (.bool true) ∧ ∃ n, w' = w.drewN n := by
  obtain ⟨A1, c1, rfl, hL⟩ := h1.len
  obtain ⟨A3, c3, rfl, _⟩ := h3.len
  obtain ⟨A2, c2, rfl, hH, hc2⟩ := h2
  obtain ⟨A4, c4, rfl, _, hc4⟩ := h4
  have H1 := Lib.hid h1
  have H3 := Lib.hid h3
  have HC2 := Lib.hid hc2
  have HC4 := Lib.hid hc4
  clear h1 h3 hc2 hc4
  go_enter Try.func18, Try.ntmps18
  go_wp2_with fail
  go_loopg [9] H.length (fun gk z wr => ∃ (j n : Nat), j + gk = H.length ∧ z = .int .i64 j ∧ wr = w.drewN n)
  case atStart => exact ⟨0, 0, by omega, rfl, rfl⟩
  case round =>
    obtain ⟨j, n, hj, rfl, rfl⟩ := hrel
    have HJ := Lib.hid hj
    have hjl : j ≤ H.length := by omega
    clear hj
    by_cases hlt : j < H.length
    · obtain ⟨b2, o2, rfl, _, _, d2⟩ := HC2.out (by omega)
      obtain ⟨b4, o4, rfl, _, _, d4⟩ := HC4.out (by omega)
      have e2 := d2 j hlt
      have e4 := d4 j hlt
      clear d2 d4
      generalize H[j]?.getD 0 = y at e2 e4
      have hb : (y != y) = false := by simp
      go_wp2_with fail
      go_quiet (fail)
      go_wp2_with fail
      go_roundg (gk - 1)
      case measure => have := HJ.out; omega
      case rel => exact ⟨j + 1, _, by have := HJ.out; omega, by go_num, by first | rfl | exact World.drewN_drewN _ _ _⟩
    · go_wp2_with fail
      go_loopg [10] L.length (fun gk z wr => ∃ (j n : Nat), j + gk = L.length ∧ z = .int .i64 j ∧ wr = w.drewN n)
      case atStart => exact ⟨0, n, by omega, rfl, rfl⟩
      case round =>
        clear HJ hjl hlt
        rename_i gk0
        obtain ⟨j, n, hj, rfl, rfl⟩ := hrel
        have HJ := Lib.hid hj
        have hjl : j ≤ L.length := by omega
        clear hj
        by_cases hlt : j < L.length
        · obtain ⟨b1, o1, k1, r1, e1, p1, q1, s1, t1⟩ := NS_row H1.out hlt
          obtain ⟨b3, o3, k3, r3, e3, p3, q3, s3, t3⟩ := NS_row H3.out hlt
          simp only [Value.slice.injEq, true_and] at e1 e3
          obtain ⟨rfl, rfl⟩ := e1
          obtain ⟨rfl, rfl⟩ := e3
          obtain ⟨X, hX⟩ : ∃ X, L[j] = X := ⟨_, rfl⟩
          rw [hX] at s1 t1 s3 t3
          obtain ⟨P1, m1, ep1, l1, f1⟩ := s1
          obtain ⟨P3, m3, ep3, l3, f3⟩ := s3
          obtain ⟨Q1, u1, eq1, l1', g1⟩ := t1
          obtain ⟨Q3, u3, eq3, l3', g3⟩ := t3
          rw [ep1] at p1
          rw [ep3] at p3
          rw [eq1] at q1
          rw [eq3] at q3
          obtain ⟨gz, hgz⟩ : ∃ x, x = gk := ⟨_, rfl⟩
          have F1 := Lib.hid f1
          have F3 := Lib.hid f3
          have G1 := Lib.hid g1
          have G3 := Lib.hid g3
          clear f1 f3 g1 g3 ep1 ep3 eq1 eq3 hX
          subst hgz
          go_wp2_with fail
          go_quiet (fail)
          go_wp2_with fail
          go_loopg [11] X.1.length (fun gk z wr => ∃ (i n : Nat), i + gk = X.1.length ∧ z = .int .i64 i ∧ wr = w.drewN n)
          case atStart => exact ⟨0, _, by omega, rfl, by first | rfl | exact World.drewN_drewN _ _ _⟩
          case round =>
            obtain ⟨i, n, hi, rfl, rfl⟩ := hrel
            have HI := Lib.hid hi
            have hil : i ≤ X.1.length := by omega
            clear hi
            by_cases hlt2 : i < X.1.length
            · obtain ⟨bp, op, rfl, _, _, dp⟩ := F1.out (by omega)
              obtain ⟨bq, oq, rfl, _, _, dq⟩ := F3.out (by omega)
              have ep := dp i hlt2
              have eq := dq i hlt2
              clear dp dq
              generalize X.1[i]?.getD 0 = y at ep eq
              have hb : (y != y) = false := by simp
              go_wp2_with fail
              go_quiet (fail)
              go_wp2_with fail
              go_roundg (gk - 1)
              case measure => have := HI.out; omega
              case rel => exact ⟨i + 1, _, by have := HI.out; omega, by go_num, by first | rfl | exact World.drewN_drewN _ _ _⟩
            · go_wp2_with fail
              go_loopg [12] X.2.length (fun gk z wr => ∃ (i n : Nat), i + gk = X.2.length ∧ z = .int .i64 i ∧ wr = w.drewN n)
              case atStart => exact ⟨0, n, by omega, rfl, rfl⟩
              case round =>
                clear HI hil hlt2
                obtain ⟨i, n, hi, rfl, rfl⟩ := hrel
                have HI := Lib.hid hi
                have hil : i ≤ X.2.length := by omega
                clear hi
                by_cases hlt2 : i < X.2.length
                · obtain ⟨bp, op, rfl, _, _, dp⟩ := G1.out (by omega)
                  obtain ⟨bq, oq, rfl, _, _, dq⟩ := G3.out (by omega)
                  have ep := dp i hlt2
                  have eq := dq i hlt2
                  clear dp dq
                  generalize X.2[i]?.getD 0 = y at ep eq
                  have hb : (y != y) = false := by simp
                  go_wp2_with fail
                  go_quiet (fail)
                  go_wp2_with fail
                  go_roundg (gk - 1)
                  case measure => have := HI.out; omega
                  case rel => exact ⟨i + 1, _, by have := HI.out; omega, by go_num, by first | rfl | exact World.drewN_drewN _ _ _⟩
                · go_wp2_with fail
                  go_roundg (gz - 1)
                  case measure => have := HJ.out; omega
                  case rel => exact ⟨j + 1, _, by have := HJ.out; omega, by go_num, by first | rfl | exact World.drewN_drewN _ _ _⟩
        · go_wp2_with fail
          go_ret
          exact ⟨rfl, _, rfl⟩
end Go.Proofs.Ytoldhaomacnigaa.Sm
