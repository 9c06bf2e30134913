/- Contracts of package mature: what begins in a part. No condition. -/
import Derived.Test.YtjgjablmkljfoaaMatF
set_option linter.unusedVariables false
set_option linter.unusedSimpArgs false
namespace Go.Proofs.Ytjgjablmkljfoaa.Ma
open Go.RowKit Go.Proofs.Ytjgjablmkljfoaa.W Go.Proofs.Ytjgjablmkljfoaa.Cl

def inn (fr te : Int) (xs : List Int) : List Int := xs.filter (fun x => decide (fr ≤ x) && decide (x < te))
def stL (f n fr te : Int) : List Pg → Nat → List Int
  | [], _ => []
  | p :: r, i => (if f + i * n + n ≤ fr ∨ te ≤ f + i * n then [] else inn fr te (stP f n i p)) ++ stL f n fr te r (i + 1)
section
variable {W w : World} {oo : Nat → Prop} {b L : Nat} {f n : Int} {lg : List (Pg × Nat)} {l : List Pr}
theorem inn_drop {fr te : Int} {V : List Int} {t : Nat} {x : Int} (h : V[t]? = some x) : inn fr te (V.drop t) = (if fr ≤ x ∧ x < te then [x] else []) ++ inn fr te (V.drop (t + 1)) := by
  have ht := (List.getElem?_eq_some_iff.1 h).1
  rw [List.drop_eq_getElem_cons ht]
  have : V[t] = x := by rw [List.getElem?_eq_getElem ht] at h; simpa using h
  rw [this]
  unfold inn
  rw [List.filter_cons]
  by_cases h1 : fr ≤ x <;> by_cases h2 : x < te <;> simp [h1, h2]
theorem stL_drop {fr te : Int} {V : List Pg} {j : Nat} {p : Pg} (h : V[j]? = some p) : stL f n fr te (V.drop j) j = (if f + j * n + n ≤ fr ∨ te ≤ f + j * n then [] else inn fr te (stP f n j p)) ++ stL f n fr te (V.drop (j + 1)) (j + 1) := by
  have ht := (List.getElem?_eq_some_iff.1 h).1
  rw [List.drop_eq_getElem_cons ht]
  have : V[j] = p := by rw [List.getElem?_eq_getElem ht] at h; simpa using h
  rw [this]
  rfl
set_option maxRecDepth 20000 in
set_option maxHeartbeats 4000000 in
theorem Starts_in (fr te : Int) (h0 : SepO W oo w (mparts b L f n lg)) (m : MW f n lg) :
    Calls Try.prog 15 #[pt b, .int .i64 fr, .int .i64 te] w fun e w' => ∃ A c, e = .returned (.slice A (stL f n fr te (lg.map (·.1)) 0).length c) ∧ SepO W oo w' (sepP (mparts b L f n lg) :: [rowP 3 A (stL f n fr te (lg.map (·.1)) 0).length c ((stL f n fr te (lg.map (·.1)) 0).map (Value.int .i64))]) := by
  have c2 := (m_blk h0).cell 2
  simp at c2
  have hl := m.len
  obtain ⟨ii, hi, hz, hs, hby⟩ := info_parts info_int
  obtain ⟨T, hT⟩ : ∃ T, stL f n fr te (lg.map (·.1)) 0 = T := ⟨_, rfl⟩
  rw [hT]
  have HT := Lib.hid hT
  have M := Lib.hid m
  have h := (h0.pack).nil_row 3
  simp only [List.cons_append, List.nil_append] at h
  clear h0 hT m
  go_enter Try.func15, Try.ntmps15
  go_wp2_with fail
  go_loopg [7, 18] lg.length (fun gk o z wr => ∃ (j : Nat) (A : Option Addr) (c : Nat) (O : List Int), j + gk = lg.length ∧ z = .int .i64 j ∧ o = .slice A O.length c ∧ O.length ≤ j * 256 ∧ O ++ stL f n fr te ((lg.map (·.1)).drop j) j = T ∧ SepO W oo wr [sepP (mparts b L f n lg), rowP 3 A O.length c (O.map (Value.int .i64))])
  case atStart => exact ⟨0, none, 0, [], by omega, rfl, rfl, by simp, by simpa using HT.out, h⟩
  case round =>
    clear h c2
    obtain ⟨j, A, c, O, hj, rfl, rfl, hO, hv, h⟩ := hrel
    have HJ := Lib.hid hj
    have HV := Lib.hid hv
    have hjl : j ≤ lg.length := by omega
    clear hj hv
    by_cases hlt : j < lg.length
    · obtain ⟨p, hp⟩ : ∃ p, lg[j]? = some p := ⟨lg[j], List.getElem?_eq_getElem hlt⟩
      have hpp : (lg.map (·.1))[j]? = some p.1 := by rw [List.getElem?_map, hp]; rfl
      have hv := HV.out
      rw [stL_drop hpp] at hv
      obtain ⟨hV0, -⟩ := stP_b M.out hp
      have h9 : SepO W oo wr (mparts b L f n lg) := (h.unpack).first
      have hbg : ∀ q, Calls Try.prog 31 #[pt b, .int .i64 (j : Int)] (wr.drewN q) fun e w' => e = .returned (.int .i64 (f + j * n)) ∧ ∃ r, w' = (wr.drewN q).drewN r := fun q => begin_in j (h9.drewN q) M.out (by omega)
      obtain ⟨B0, B1⟩ := begin_b M.out (i := j) (by omega)
      have c1 := (m_blk h9).cell 1
      simp at c1
      have n0 := M.out.n0
      have n1 := M.out.n1
      have hst := fun q => starts_at j hp (h.drewN q) M.out
      obtain ⟨B, hB⟩ : ∃ B, f + (j : Int) * n = B := ⟨_, rfl⟩
      simp only [hB] at hbg hv
      rw [hB] at B0 B1
      generalize stP f n j p.1 = V at hv hV0 hst
      have s1 := IntWalk.i64_in (B + n) (by omega)
      have HD := Lib.hid hv
      have HST := Lib.hid hst
      have HBG := Lib.hid hbg
      have HH := Lib.hid h
      clear hv hpp hp hst hbg hB HV h9 h
      by_cases t1 : B + n ≤ fr
      · have d1 : decide (B + n ≤ fr) = true := by simpa using t1
        have hv := HD.out
        rw [if_pos (.inl t1)] at hv
        have HV := Lib.hid hv
        clear hv HD t1
        go_wp2_with fail
        go_quiet ((go_at_call 31; exact Calls.quiet_of (HBG.out _)))
        go_wp2_with fail
        go_roundg (gk - 1)
        case measure => have := HJ.out; omega
        case rel => exact ⟨j + 1, A, c, O, by have := HJ.out; omega, by go_num, rfl, by omega, by simpa using HV.out, HH.out.drewN _⟩
      · have d1 : decide (B + n ≤ fr) = false := by simpa using t1
        by_cases t2 : te ≤ B
        · have d2 : decide (te ≤ B) = true := by simpa using t2
          have hv := HD.out
          rw [if_pos (.inr t2)] at hv
          have HV := Lib.hid hv
          clear hv HD t1 t2
          go_wp2_with fail
          go_quiet ((go_at_call 31; exact Calls.quiet_of (HBG.out _)))
          go_wp2_with fail
          go_roundg (gk - 1)
          case measure => have := HJ.out; omega
          case rel => exact ⟨j + 1, A, c, O, by have := HJ.out; omega, by go_num, rfl, by omega, by simpa using HV.out, HH.out.drewN _⟩
        · have d2 : decide (te ≤ B) = false := by simpa using t2
          have hv := HD.out
          rw [if_neg (fun h => by rcases h with h | h <;> contradiction)] at hv
          have HV := Lib.hid hv
          clear hv HD t1 t2
          go_wp2_with fail
          go_quiet ((go_at_call 31; exact Calls.quiet_of (HBG.out _)))
          go_wp2_with fail
          refine (HST.out _).mono ?_
          rintro e w1 ⟨AV, cV, rfl, h1⟩
          simp only [List.cons_append, List.nil_append] at h1
          clear HH HST HBG c1
          go_wp2_with fail
          obtain ⟨gz, rfl⟩ : ∃ x, x = gk := ⟨_, rfl⟩
          go_loopg [7, 42] V.length (fun gt o z wx => ∃ (t : Nat) (A : Option Addr) (c : Nat) (O : List Int), t + gt = V.length ∧ z = .int .i64 t ∧ o = .slice A O.length c ∧ O.length ≤ j * 256 + t ∧ O ++ (inn fr te (V.drop t) ++ stL f n fr te ((lg.map (·.1)).drop (j + 1)) (j + 1)) = T ∧ SepO W oo wx [sepP (mparts b L f n lg), rowP 3 A O.length c (O.map (Value.int .i64)), rowP 3 AV V.length cV (V.map (Value.int .i64))])
          case atStart => exact ⟨0, A, c, O, by omega, rfl, rfl, by omega, by simpa using HV.out, h1⟩
          case round =>
            clear h1 hO HV
            obtain ⟨t, A, c, O, ht, rfl, rfl, hO, hv, h⟩ := hrel
            have HI := Lib.hid ht
            have HV := Lib.hid hv
            have htl : t ≤ V.length := by omega
            clear ht hv
            by_cases hlt' : t < V.length
            · obtain ⟨x, hx⟩ : ∃ x, V[t]? = some x := ⟨V[t], List.getElem?_eq_getElem hlt'⟩
              have hv := HV.out
              rw [inn_drop hx] at hv
              obtain ⟨oq, hq, _⟩ := h.row 2 rfl
              obtain ⟨g, off, rfl, _, _, hcell, _⟩ := hq.at_ (i := t) (by omega)
              have y0 := hcell t hlt'
              simp [hx] at y0
              have HD := Lib.hid hv
              clear hv hq hcell hx HV
              rcases (by omega : (fr ≤ x ∧ x < te) ∨ ¬ fr ≤ x ∨ (fr ≤ x ∧ ¬ x < te)) with ⟨e1, e2⟩ | e1 | ⟨e1, e2⟩
              · have g1 : decide (fr ≤ x) = true := by simpa using e1
                have g2 : decide (x < te) = true := by simpa using e2
                have hv := HD.out
                rw [if_pos ⟨e1, e2⟩] at hv
                have HV := Lib.hid hv
                clear hv HD
                go_wp2_with (at_builtin; refine wpList_append_sep rfl _ _ 25 rfl 3 ii (.int .i64 0) 8 Try.underlying25 hi hz hs hby rfl A O.length c (O.map (Value.int .i64)) rfl wr.heap.size (.int .i64 x) rfl (h.alloc _) 1 rfl ?c1 rfl ?c2 ?c3 ?_)
                case c1 => simp
                case c2 => omega
                case c3 => omega
                intro A' c' w8 h8
                have he : (O ++ [x]).length = O.length + 1 := by simp
                have HL := Lib.hid he
                clear he h
                go_wp2_with fail
                go_roundg (gk - 1)
                case measure => have := HI.out; omega
                case rel =>
                  refine ⟨t + 1, A', c', O ++ [x], by have := HI.out; omega, by go_num, by rw [HL.out], by rw [HL.out]; omega, by have := HV.out; simpa using this, ?_⟩
                  rw [HL.out, List.map_append]
                  exact h8
              · have g1 : decide (fr ≤ x) = false := by simpa using e1
                have hv := HD.out
                rw [if_neg (fun h => e1 h.1)] at hv
                have HV := Lib.hid hv
                clear hv HD
                go_wp2_with fail
                go_roundg (gk - 1)
                case measure => have := HI.out; omega
                case rel => exact ⟨t + 1, A, c, O, by have := HI.out; omega, by go_num, rfl, by omega, by have := HV.out; simpa using this, h⟩
              · have g1 : decide (fr ≤ x) = true := by simpa using e1
                have g2 : decide (x < te) = false := by simpa using e2
                have hv := HD.out
                rw [if_neg (fun h => e2 h.2)] at hv
                have HV := Lib.hid hv
                clear hv HD
                go_wp2_with fail
                go_roundg (gk - 1)
                case measure => have := HI.out; omega
                case rel => exact ⟨t + 1, A, c, O, by have := HI.out; omega, by go_num, rfl, by omega, by have := HV.out; simpa using this, h⟩
            · have hv := HV.out
              rw [List.drop_of_length_le (by omega)] at hv
              have HD := Lib.hid hv
              have h2 := h.first (l := [_, _])
              clear hv HV h
              go_wp2_with fail
              go_roundg (gz - 1)
              case measure => have := HJ.out; omega
              case rel => exact ⟨j + 1, A, c, O, by have := HJ.out; omega, by go_num, rfl, by omega, by have := HD.out; simpa [inn] using this, h2⟩
    · have hv := HV.out
      rw [List.drop_of_length_le (by simpa using Nat.le_of_not_lt hlt)] at hv
      have HD := Lib.hid hv
      have H2 := Lib.hid h
      clear hv HV h
      go_wp2_with fail
      go_ret
      have : O = T := by rw [← HD.out]; simp [stL]
      subst this
      exact ⟨A, c, rfl, H2.out⟩
end
end Go.Proofs.Ytjgjablmkljfoaa.Ma
