/- The reference's space: Starts. No condition. -/
import Derived.Test.YtjgjablmkljfoaaMrA
import Derived.Test.YtjgjablmkljfoaaMatT
import Derived.BigRegion
import Derived.IntWalk
set_option linter.unusedVariables false
set_option linter.unusedSimpArgs false
namespace Go.Proofs.Ytjgjablmkljfoaa.Mr
open Go.RowKit Go.Proofs.Ytjgjablmkljfoaa.W Go.Proofs.Ytjgjablmkljfoaa.Cl Go.Proofs.Ytjgjablmkljfoaa.Ma
theorem SepO.row_write {W w : World} {oo : Nat → Prop} {l : List Pr} {e : TypeId} {A : Option Addr} {n c : Nat} {xs : List Value} (h : SepO W oo w l) (k : Nat) (hk : l[k]? = some (rowP e A n c xs)) {i : Nat} (hi : i < n) : ∃ G off, A = some ⟨G, off, none⟩ ∧ G < w.heap.size ∧ (∀ j, j < n → w.cell? ⟨G, off + j, none⟩ = xs[j]?) ∧ (∀ j, w.frozen? ⟨G, off + j, none⟩ = false) ∧ ∀ u, SepO W oo (w.setCell ⟨G, off + i, none⟩ u) (l.set k (rowP e A n c (xs.set i u))) := by
  obtain ⟨o, h1, _, hup⟩ := h.open_ k hk
  obtain ⟨⟨h2, h3, h4, h5⟩⟩ := h1, h1
  rcases h5 with ⟨_, h0⟩ | ⟨g, off, cur, hA, hg, hb, hs, ht⟩
  · omega
  · refine ⟨g, off, hA, hb.lt, fun j hj => ?_, fun j => hb.frozen _, fun u => ?_⟩
    · rw [hb.cell, ← ht, List.getElem?_take, if_pos hj, List.getElem?_drop, Array.getElem?_toList]
    · refine hup _ (rowP e A n c (xs.set i u)) ⟨by simpa using h2, h3, h4, .inr ⟨g, off, _, hA, .inl hg, hb.set_ (off + i) u, by simpa using hs, ?_⟩⟩ ((Keep.refl _ _).set_ (.inl hg) _)
      rw [Array.toList_setIfInBounds, List.drop_set, if_neg (by omega), show off + i - off = i by omega, List.take_set, ht]
/-- A number on its way down a row. -/
def bub (x : Int) (O : List Int) : Nat → List Int
  | 0 => x :: O
  | k + 1 => if x < O[k]?.getD 0 then bub x O k else O.take (k + 1) ++ x :: O.drop (k + 1)
def mid (x : Int) (O : List Int) (k : Nat) : List Int := O.take k ++ x :: O.drop k
theorem mid_len {x : Int} {O : List Int} {k : Nat} (hk : k ≤ O.length) : (mid x O k).length = O.length + 1 := by
  simp [mid]; omega
theorem mid_at {x : Int} {O : List Int} {k : Nat} (hk : k ≤ O.length) : (mid x O k)[k]? = some x := by
  unfold mid
  rw [List.getElem?_append_right (by simp; omega)]
  simp [Nat.min_eq_left hk]
theorem mid_pre {x : Int} {O : List Int} {k : Nat} (hk : k + 1 ≤ O.length) : (mid x O (k + 1))[k]? = O[k]? := by
  unfold mid
  rw [List.getElem?_append_left (by simp; omega), List.getElem?_take, if_pos (by omega)]
theorem mid_swap {x y : Int} {O : List Int} {k : Nat} (hk : k + 1 ≤ O.length) (hy : O[k]? = some y) : ((mid x O (k + 1)).set k x).set (k + 1) y = mid x O k := by
  apply List.ext_getElem?
  intro j
  have h1 : (O.take (k + 1)).length = k + 1 := by simp; omega
  have h2 : (O.take k).length = k := by simp; omega
  have hO : O.drop k = y :: O.drop (k + 1) := by
    rw [List.drop_eq_getElem_cons (by omega)]
    rw [List.getElem?_eq_getElem (by omega)] at hy
    simp only [Option.some.injEq] at hy
    rw [hy]
  unfold mid
  rw [hO, List.getElem?_set, List.getElem?_set]
  by_cases e1 : k + 1 = j
  · subst e1
    rw [if_pos rfl, if_pos (by simp; omega), List.getElem?_append_right (by omega)]
    simp [Nat.min_eq_left (by omega : k ≤ O.length)]
  · rw [if_neg e1]
    by_cases e2 : k = j
    · subst e2
      rw [if_pos rfl, if_pos (by simp; omega), List.getElem?_append_right (by omega), h2]
      simp
    · rw [if_neg e2]
      by_cases e3 : j < k
      · rw [List.getElem?_append_left (by omega), List.getElem?_append_left (by omega), List.getElem?_take, if_pos (by omega), List.getElem?_take, if_pos e3]
      · rw [List.getElem?_append_right (by omega), List.getElem?_append_right (by omega), h1, h2]
        obtain ⟨m, rfl⟩ : ∃ m, j = k + 2 + m := ⟨j - k - 2, by omega⟩
        rw [show k + 2 + m - (k + 1) = m + 1 by omega, show k + 2 + m - k = m + 2 by omega]
        simp
def rst (fr te : Int) : List Ce → List Int → List Int
  | [], O => O
  | c :: r, O => if c.u = true ∧ fr ≤ c.a ∧ c.a < te then rst fr te r (bub c.a O O.length) else rst fr te r O
section
variable {W w : World} {oo : Nat → Prop} {b g : Nat} {A : Option Addr} {c : Nat} {s : RS}
set_option maxRecDepth 20000 in
set_option maxHeartbeats 4000000 in
theorem Starts_in (fr te : Int) (h : SepO W oo w (rparts b g A c s)) (hs : s.ok) : Calls Try.prog 23 #[pt b, .int .i64 fr, .int .i64 te] w fun e w' => ∃ B d, e = .returned (.slice B (rst fr te s.cs []).length d) ∧ SepO W oo w' (rparts b g A c s ++ [rowI8 B d (rst fr te s.cs [])]) := by
  obtain ⟨i1, i2, i3, i4, i5⟩ := info_parts info_int
  have hl := hs.len
  obtain ⟨V, hV⟩ : ∃ V, rst fr te s.cs [] = V := ⟨_, rfl⟩
  rw [hV]
  have HV := Lib.hid hV
  have h2 := h.new_row 3 #[] (by simp)
  have HS := Lib.hid h2
  clear hV h h2
  go_enter Try.func23, Try.ntmps23
  go_wp2_with fail
  go_loopg [7, 8, 9, 10] s.cs.length (fun gk o z y1 y2 wr => ∃ (j : Nat) (B : Option Addr) (d : Nat) (O : List Int), j + gk = s.cs.length ∧ z = .int .i64 j ∧ o = .slice B O.length d ∧ O.length ≤ j ∧ rst fr te (s.cs.drop j) O = V ∧ SepO W oo wr (rparts b g A c s ++ [rowI8 B d O]))
  case atStart => exact ⟨0, _, 0, [], by omega, rfl, rfl, by simp, HV.out, HS.out⟩
  case round =>
    clear HV HS
    obtain ⟨j, B, d, O, hj, rfl, rfl, hOj, hv, h⟩ := hrel
    have HJ := Lib.hid hj
    have hjl : j ≤ s.cs.length := by omega
    have c3 := (r_b h.first).cell 3
    simp at c3
    clear hj
    by_cases hlt : j < s.cs.length
    · obtain ⟨p, hp⟩ : ∃ p, s.cs[j] = p := ⟨_, rfl⟩
      have hp' : s.cs[j]? = some p := by rw [List.getElem?_eq_getElem hlt, hp]
      obtain ⟨G, rfl, y0, y1, y2, y3, hG, -⟩ := r_c h.first hp'
      obtain ⟨q0, q1, q2, q3⟩ := hs.cell (List.mem_of_getElem? hp')
      rw [List.drop_eq_getElem_cons hlt, hp] at hv
      unfold rst at hv
      obtain ⟨x, hx⟩ : ∃ x, p.a = x := ⟨_, rfl⟩
      rw [hx] at hv y0 q0 q1 q3
      have H := Lib.hid h
      clear h hp hp'
      by_cases hc : p.u = true ∧ fr ≤ x ∧ x < te
      · rw [if_pos hc] at hv
        obtain ⟨hc0, hc1, hc2⟩ := hc
        rw [hc0] at y2
        have d1 : decide (x < fr) = false := by simp; omega
        have d2 : decide (te ≤ x) = false := by simp; omega
        have HV := Lib.hid hv
        clear hv hx hc0
        go_wp2_with (at_builtin; refine wpList_append_sep rfl _ _ 25 rfl 3 i1 (.int .i64 0) 8 Try.underlying25 i2 i3 i4 i5 rfl B O.length d (O.map (Value.int .i64)) rfl (wr.heap.size + 1) (.int .i64 x) rfl ((H.out.alloc (.cells #[.int .i64 x, .int .i64 p.n, .bool true, .bool p.g] 63)).alloc (.cells #[.int .i64 x] 3)) 3 rfl ?c1 rfl ?c2 ?c3 ?_)
        case c1 =>
          have := (Blk.new (wr.alloc (.cells #[.int .i64 x, .int .i64 p.n, .bool true, .bool p.g] 63)) 3 #[.int .i64 x]).cell 0
          rw [World.size_alloc] at this
          exact this
        case c2 => omega
        case c3 => omega
        intro A2 c2 w2 h2
        have h3 : SepO W oo w2 (rparts b g (some ⟨G, 0, none⟩) c s ++ [rowI8 A2 c2 (mid x O O.length)]) := by
          have e : (mid x O O.length).length = O.length + 1 := mid_len (Nat.le_refl _)
          have e2 : mid x O O.length = O ++ [x] := by simp [mid]
          unfold rowI8
          rw [e, e2, List.map_append]
          exact h2
        have H7 := Lib.hid h3
        clear h2 h3
        go_wp2_with fail
        obtain ⟨gz, rfl⟩ : ∃ x, x = gk := ⟨_, rfl⟩
        go_loopg [10] O.length (fun gk z wr => ∃ (k : Nat), gk = k ∧ z = .int .i64 k ∧ k ≤ O.length ∧ rst fr te (s.cs.drop (j + 1)) (bub x O k) = V ∧ SepO W oo wr (rparts b g (some ⟨G, 0, none⟩) c s ++ [rowI8 A2 c2 (mid x O k)]))
        case atStart => exact ⟨O.length, rfl, rfl, Nat.le_refl _, HV.out, H7.out⟩
        case round =>
          clear H7 HV y0 y1 y2 y3 c3 hG
          obtain ⟨k, hgk, rfl, hk, hv, h⟩ := hrel
          have HG := Lib.hid hgk
          have HOj := Lib.hid hOj
          have HHL := Lib.hid hl
          have HJL := Lib.hid hjl
          clear hgk
          have HV := Lib.hid hv
          clear hv
          have HM := Lib.hid (mid_len hk (x := x))
          rcases (by omega : k = 0 ∨ 0 < k) with h0 | h0
          · subst h0
            have H := Lib.hid h
            clear h
            go_wp2_with fail
            go_quiet (fail)
            go_wp2_with fail
            go_roundg (gz - 1)
            case measure => have := HJ.out; omega
            case rel => exact ⟨j + 1, A2, c2, mid x O 0, by have := HJ.out; omega, by go_num, by rw [HM.out], by rw [HM.out]; omega, HV.out, H.out.drewN nq⟩
          · obtain ⟨m, hm⟩ : ∃ m, k = m + 1 := ⟨k - 1, by omega⟩
            have hmk : m + 1 ≤ O.length := by omega
            have e0 : (k : Int) - 1 = (m : Int) := by omega
            have e1 : IntKind.i64.wrap ((k : Int) - 1) = (m : Int) := by rw [IntWalk.i64_in _ (by omega)]; exact e0
            obtain ⟨y, hy⟩ : ∃ y, O[m]? = some y := ⟨O[m], List.getElem?_eq_getElem (by omega)⟩
            obtain ⟨Q, off, rfl, hQ, hcell, hfr, hup⟩ := SepO.row_write h 3 rfl (i := m) (by rw [HM.out]; omega)
            have z0 := hcell m (by rw [HM.out]; omega)
            have z1 := hcell k (by rw [HM.out]; omega)
            rw [List.getElem?_map, hm, mid_pre hmk, hy] at z0
            rw [List.getElem?_map, mid_at hk] at z1
            simp only [Option.map_some] at z0 z1
            have f0 := hfr m
            have f1 := hfr k
            have hbub : bub x O k = if x < y then bub x O m else mid x O k := by
              subst hm
              show (if x < O[m]?.getD 0 then bub x O m else O.take (m + 1) ++ x :: O.drop (m + 1)) = _
              rw [hy]; rfl
            have hlen := HM.out
            have hOI : (O.length : Int) ≤ 20000 := by omega
            have hkI : (k : Int) ≤ 20000 := by omega
            have hmI : (m : Int) < O.length + 1 := by omega
            have hkI2 : (k : Int) < O.length + 1 := by omega
            have hmN : m < O.length + 1 := by omega
            have hkN : k < O.length + 1 := by omega
            have HMK := Lib.hid hm
            by_cases hxy : x < y
            · have hs1 := hup (.int .i64 x)
              have HVB := Lib.hid (hbub.trans (if_pos hxy))
              obtain ⟨Q', off', e', hQ', hcell', hfr', hup'⟩ := SepO.row_write hs1 3 rfl (i := k) (by rw [HM.out]; omega)
              cases e'
              have hs2 := hup' (.int .i64 y)
              have hms : (((mid x O k).map (Value.int .i64)).set m (.int .i64 x)).set k (.int .i64 y) = (mid x O m).map (Value.int .i64) := by
                rw [← mid_swap hmk hy, List.map_set, List.map_set, hm]
              have hs3 : SepO W oo ((wr.setCell ⟨Q, off + m, none⟩ (.int .i64 x)).setCell ⟨Q, off + k, none⟩ (.int .i64 y)) (rparts b g (some ⟨G, 0, none⟩) c s ++ [rowI8 (some ⟨Q, off, none⟩) c2 (mid x O m)]) := by
                have e3 : (mid x O m).length = (mid x O k).length := by rw [HM.out, mid_len (by omega)]
                unfold rowI8
                rw [e3, ← hms]
                exact hs2
              have H3 := Lib.hid hs3
              have hxy' : decide (x < y) = true := by simpa using hxy
              have hkm : ¬ m = k := by omega
              clear h hcell hfr hup hbub hs1 hs2 hs3 hms hcell' hfr' hup' hQ' hm hy hmk hlen hl hOj hjl hlt q0 q1 q2 q3 hc1 hc2 d1 d2
              go_wp2_with fail
              go_quiet (fail)
              go_wp2_with fail
              go_region
              all_goals
                go_wp2_with fail
                go_roundg (gk - 1)
                case measure => have := HG.out; omega
                case rel => exact ⟨m, by have := HG.out; have := HMK.out; omega, by go_num, by have := HMK.out; omega, by rw [← HVB.out]; exact HV.out, H3.out.drewN _⟩
            · have HVB := Lib.hid (hbub.trans (if_neg hxy))
              have H := Lib.hid h
              have hxy' : decide (x < y) = false := by simpa using hxy
              have HLT := Lib.hid hlt
              clear h hcell hfr hup hbub hm hy hmk hlen hl hOj hjl hlt q0 q1 q2 q3 hc1 hc2 d1 d2
              go_wp2_with fail
              go_quiet (fail)
              have hjl := HJL.out
              have hlt := HLT.out
              have hl := HHL.out
              go_wp2_with fail
              go_roundg (gz - 1)
              case measure => have := HJ.out; omega
              case rel => exact ⟨j + 1, _, c2, mid x O k, by have := HJ.out; omega, by go_num, by rw [HM.out], by rw [HM.out]; have := HOj.out; omega, by rw [← HVB.out]; exact HV.out, H.out.drewN nq⟩
      · rw [if_neg hc] at hv
        have HV := Lib.hid hv
        clear hv hx
        have H2 := Lib.hid (H.out.alloc (.cells #[.int .i64 x, .int .i64 p.n, .bool p.u, .bool p.g] 63))
        cases hu : p.u
        · rw [hu] at y2 H2
          clear hc hu
          go_wp2_with fail
          go_roundg (gk - 1)
          case measure => have := HJ.out; omega
          case rel => exact ⟨j + 1, B, d, O, by have := HJ.out; omega, by go_num, rfl, by omega, HV.out, H2.out⟩
        · rw [hu] at y2 H2
          by_cases d1 : x < fr
          · clear hc hu
            go_wp2_with fail
            go_roundg (gk - 1)
            case measure => have := HJ.out; omega
            case rel => exact ⟨j + 1, B, d, O, by have := HJ.out; omega, by go_num, rfl, by omega, HV.out, H2.out⟩
          · have d2 : te ≤ x := by
              apply Classical.byContradiction
              intro hn
              exact hc ⟨hu, by omega, by omega⟩
            have d1' : decide (x < fr) = false := by simp; omega
            clear hc hu
            go_wp2_with fail
            go_roundg (gk - 1)
            case measure => have := HJ.out; omega
            case rel => exact ⟨j + 1, B, d, O, by have := HJ.out; omega, by go_num, rfl, by omega, HV.out, H2.out⟩
    · rw [List.drop_of_length_le (by omega)] at hv
      unfold rst at hv
      subst hv
      have H := Lib.hid h
      clear h
      go_wp2_with fail
      go_ret
      exact ⟨B, d, rfl, H.out⟩
end
end Go.Proofs.Ytjgjablmkljfoaa.Mr
