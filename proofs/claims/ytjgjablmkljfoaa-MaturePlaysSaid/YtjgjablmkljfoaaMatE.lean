/- Contracts of package mature: what begins in a page. No condition. -/
import Derived.Test.YtjgjablmkljfoaaMatD
import Derived.Test.YtjgjablmkljfoaaSepStep
set_option linter.unusedVariables false
set_option linter.unusedSimpArgs false
namespace Go.Proofs.Ytjgjablmkljfoaa.Ma
open Go.RowKit Go.Proofs.Ytjgjablmkljfoaa.W Go.Proofs.Ytjgjablmkljfoaa.Cl

theorem info_int : (Try.prog.info? 3).map (fun i => (i.zero, i.size, i.bytes)) = some (some (.int .i64 0), 1, 8) := by kernel_rfl
/-- What begins in a page of cells, from the k-th cell on; B: where the page begins. -/
def sv (B sz : Int) : List Bool → Nat → List Int
  | [], _ => []
  | x :: r, k => (if x then [B + k * sz] else []) ++ sv B sz r (k + 1)
def stP (f n : Int) (i : Nat) (p : Pg) : List Int := if p.kind = 2 then [f + i * n] else sv (f + i * n) p.size p.used 0
theorem sv_len (B sz : Int) (u : List Bool) (k : Nat) : (sv B sz u k).length ≤ u.length := by
  induction u generalizing k with
  | nil => exact Nat.le_refl _
  | cons x r ih =>
    unfold sv
    have := ih (k + 1)
    rw [List.length_append, List.length_cons]
    split <;> simp <;> omega
theorem sv_drop {B sz : Int} {u : List Bool} {j : Nat} (hj : j < u.length) : sv B sz (u.drop j) j = (if u[j]?.getD false then [B + j * sz] else []) ++ sv B sz (u.drop (j + 1)) (j + 1) := by
  rw [List.drop_eq_getElem_cons hj, List.getElem?_eq_getElem hj]
  rfl
section
variable {W w : World} {oo : Nat → Prop} {b L : Nat} {f n : Int} {lg : List (Pg × Nat)}
theorem begin_sep {l : List Pr} (i : Nat) (h : SepO W oo w (mparts b L f n lg ++ l)) (m : MW f n lg) (hi : i ≤ 64) : Calls Try.prog 31 #[pt b, .int .i64 i] w fun e w' => e = .returned (.int .i64 (f + i * n)) ∧ SepO W oo w' (mparts b L f n lg ++ l) :=
  (begin_in i (SepO.first h) m hi).mono (by rintro e w' ⟨he, k, rfl⟩; exact ⟨he, h.drewN k⟩)
theorem begin_b (m : MW f n lg) {i : Nat} (hi : i ≤ 64) : 0 ≤ f + i * n ∧ f + i * n ≤ 1048576 + 16384 := by
  have hx0 : 0 ≤ (i : Int) * n := Int.mul_nonneg (by omega) (by have := m.n0; omega)
  have h1 := Int.mul_le_mul_of_nonneg_right (by omega : (i : Int) ≤ 64) (by have := m.n0; omega : 0 ≤ n)
  have := m.n1
  have := m.f0
  have := m.f1
  omega
set_option maxRecDepth 20000 in
set_option maxHeartbeats 2000000 in
theorem starts_in (i : Nat) {p : Pg × Nat} (hp : lg[i]? = some p) (h : SepO W oo w (mparts b L f n lg)) (m : MW f n lg) :
    Calls Try.prog 34 #[pt b, .int .i64 i] w fun e w' => ∃ A c, e = .returned (.slice A (stP f n i p.1).length c) ∧ SepO W oo w' (mparts b L f n lg ++ [rowP 3 A (stP f n i p.1).length c ((stP f n i p.1).map (Value.int .i64))]) := by
  have c2 := (m_blk h).cell 2
  simp at c2
  obtain ⟨p0, p1, p2, p3⟩ := m_page h hp
  have hil : i < lg.length := (List.getElem?_eq_some_iff.1 hp).1
  have hl := m.len
  have n0 := m.n0
  have n1 := m.n1
  have hok := m.page p (List.mem_of_getElem? hp)
  have hul := used_le hok n1 n0
  obtain ⟨hB0, hB1⟩ := begin_b m (i := i) (by omega)
  have M := Lib.hid m
  clear m
  obtain ⟨⟨kd, sz, us, pe⟩, g⟩ := p
  simp only [Pg.ok] at *
  by_cases hk1 : kd = 1
  · subst hk1
    obtain ⟨k0, k1, k2⟩ : 1 ≤ sz ∧ sz ≤ n ∧ (us.length : Int) = n / sz := by
      rcases hok with ⟨_, h1, h2, h3⟩ | ⟨h1, _⟩
      · exact ⟨h1, h2, h3⟩
      · exact absurd rfl h1
    have hne' : us ≠ [] := by
      intro he
      rw [he] at k2
      have h1 := (Int.le_ediv_iff_mul_le (a := 1) (b := n) (by omega : 0 < sz)).2 (by omega)
      simp at k2
      omega
    have hne : us.isEmpty = false := by cases us <;> simp at hne' ⊢
    have hus : usl ⟨1, sz, us, pe⟩ g = .slice (some ⟨g, 0, none⟩) us.length us.length := by unfold usl; rw [if_neg (by simp [hne])]
    rw [hus] at p2
    have HK := Lib.hid k2
    have hV : stP f n i ⟨1, sz, us, pe⟩ = sv (f + i * n) sz us 0 := rfl
    rw [hV]
    obtain ⟨V, hV'⟩ : ∃ V, sv (f + i * n) sz us 0 = V := ⟨_, rfl⟩
    rw [hV']
    have HV := Lib.hid hV'
    have HP := Lib.hid hp
    obtain ⟨B, hB⟩ : ∃ B, f + (i : Int) * n = B := ⟨_, rfl⟩
    rw [hB] at hB0 hB1
    have HB := Lib.hid hB
    obtain ⟨ii, hi, hz, hs, hby⟩ := info_parts info_int
    have h1 := h.new_blk 57 #[.int .i64 1, .int .i64 sz, .slice (some ⟨g, 0, none⟩) us.length us.length, .bool pe]
    obtain ⟨X, hX⟩ : ∃ X, w.heap.size = X := ⟨_, rfl⟩
    rw [hX] at h1
    have H1 := Lib.hid h1
    have HX := Lib.hid hX
    have H0 := Lib.hid h
    clear hX
    clear hok k2 hV hV' hp hus hB h h1
    go_enter Try.func34, Try.ntmps34
    go_wp2_with fail
    rw [HX.out]
    generalize w.alloc (.cells #[.int .i64 1, .int .i64 sz, .slice (some ⟨g, 0, none⟩) us.length us.length, .bool pe] 57) = w1 at H1 ⊢
    have HBg : ∀ (w' : World) (P : Pr), SepO W oo w' ((mparts b L f n lg ++ [blkP X 57 #[.int .i64 1, .int .i64 sz, .slice (some ⟨g, 0, none⟩) us.length us.length, .bool pe]]) ++ [P]) → Calls Try.prog 31 #[pt b, .int .i64 i] w' fun e w'' => e = .returned (.int .i64 B) ∧ SepO W oo w'' ((mparts b L f n lg ++ [blkP X 57 #[.int .i64 1, .int .i64 sz, .slice (some ⟨g, 0, none⟩) us.length us.length, .bool pe]]) ++ [P]) := fun w' P hh => by
      rw [List.append_assoc] at hh ⊢
      have := begin_sep i hh M.out (by omega)
      rw [HB.out] at this
      exact this
    have HXc : ∀ (w' : World) (P : Pr), SepO W oo w' ((mparts b L f n lg ++ [blkP X 57 #[.int .i64 1, .int .i64 sz, .slice (some ⟨g, 0, none⟩) us.length us.length, .bool pe]]) ++ [P]) → w'.cell? ⟨X, 1, none⟩ = some (.int .i64 sz) := fun w' P hh => (hh.blk _ (at_left at_last)).cell 1
    have HUc : ∀ (w' : World) (P : Pr), SepO W oo w' ((mparts b L f n lg ++ [blkP X 57 #[.int .i64 1, .int .i64 sz, .slice (some ⟨g, 0, none⟩) us.length us.length, .bool pe]]) ++ [P]) → ∀ k, k < us.length → w'.cell? ⟨g, k, none⟩ = some (.bool (us[k]?.getD false)) := fun w' P hh k hk => by
      rw [((hh.first).blk (i + 2) (at_left (m_used H0.out HP.out hne'))).cell, bools_get hk]
    have hend : ∀ (w' : World) (P : Pr), SepO W oo w' ((mparts b L f n lg ++ [blkP X 57 #[.int .i64 1, .int .i64 sz, .slice (some ⟨g, 0, none⟩) us.length us.length, .bool pe]]) ++ [P]) → SepO W oo w' (mparts b L f n lg ++ [P]) := fun w' P hh => by
      rw [List.append_assoc] at hh
      exact hh.drop_mid
    have HN := Lib.hid ((H1.out).nil_row 3)
    generalize mparts b L f n lg ++ [blkP X 57 #[.int .i64 1, .int .i64 sz, .slice (some ⟨g, 0, none⟩) us.length us.length, .bool pe]] = l at HBg HXc HUc hend HN
    have HBG := Lib.hid HBg
    have HXC := Lib.hid HXc
    have HUC := Lib.hid HUc
    have HE := Lib.hid hend
    clear HBg HXc HUc hend H1 HX H0 c2 p0 p1 p2 p3
    go_loopg [6, 26] us.length (fun gk o z wr => ∃ (j : Nat) (A : Option Addr) (c : Nat) (O : List Int), j + gk = us.length ∧ z = .int .i64 j ∧ o = .slice A O.length c ∧ O.length ≤ j ∧ O ++ sv B sz (us.drop j) j = V ∧ SepO W oo wr (l ++ [rowP 3 A O.length c (O.map (Value.int .i64))]))
    case atStart => exact ⟨0, none, 0, [], by omega, rfl, rfl, by simp, by rw [← HV.out, HB.out]; rfl, HN.out⟩
    case round =>
      obtain ⟨j, A, c, O, hj, rfl, rfl, hO, hv, h2⟩ := hrel
      have HJ := Lib.hid hj
      have HV' := Lib.hid hv
      have hjl : j ≤ us.length := by omega
      clear hj hv
      by_cases hlt : j < us.length
      · have ei := HUC.out _ _ h2 j hlt
        have hd := sv_drop (B := B) (sz := sz) hlt
        cases hx : us[j]?.getD false
        · rw [hx] at ei hd
          have hv := HV'.out
          rw [hd] at hv
          have HD := Lib.hid hv
          have H2 := Lib.hid h2
          clear hx hd hv h2
          go_wp2_with fail
          go_roundg (gk - 1)
          case measure => have := HJ.out; omega
          case rel => exact ⟨j + 1, A, c, O, by have := HJ.out; omega, by go_num, rfl, by omega, by simpa using HD.out, H2.out⟩
        · rw [hx] at ei hd
          have hv := HV'.out
          rw [hd] at hv
          have HD := Lib.hid hv
          have hm0 : 0 ≤ (j : Int) * sz := Int.mul_nonneg (by omega) (by omega)
          have hm1 : (j : Int) * sz ≤ 256 * 256 := by
            have h1 := Int.mul_le_mul_of_nonneg_right (by omega : (j : Int) ≤ 256) (by omega : 0 ≤ sz)
            omega
          have s1 := IntWalk.i64_in ((j : Int) * sz) (by omega)
          have s2 := IntWalk.i64_in (B + (j : Int) * sz) (by omega)
          have x1 := HXC.out _ _ h2
          clear hx hd hv
          go_wp2_with fail
          replace h2 := h2.drew
          replace x1 := HXC.out _ _ h2
          go_region_held3 (fun w' => w'.cell? ⟨X, 1, none⟩ = some (.int .i64 sz)) (first | exact x1 | exact y1 | exact z1 | go_keep) ((first | (go_at_call 31; (with_reducible refine (HBG.out _ _ h2).mono ?_); rintro e w5 ⟨rfl, h5⟩; have y1 := HXC.out _ _ h5) | (refine step_append_sep rfl _ _ 25 rfl 3 ii (.int .i64 0) 8 Try.underlying25 hi hz hs hby rfl A O.length c (O.map (Value.int .i64)) rfl _ (.int .i64 (B + (j : Int) * sz)) rfl (h5.alloc _) (by simp) rfl (by omega) (by omega) ?_; intro A' c' w6 h6; have z1 := HXC.out _ _ h6)))
          have HZ := Lib.hid h6
          have he : (O ++ [B + (j : Int) * sz]).length = O.length + 1 := by simp
          have HL := Lib.hid he
          clear h2 h5 h6 x1 y1 z1 he
          go_wp2_with fail
          go_roundg (gk - 1)
          case measure => have := HJ.out; omega
          case rel =>
            refine ⟨j + 1, A', c', O ++ [B + (j : Int) * sz], by have := HJ.out; omega, by go_num, by rw [HL.out], by rw [HL.out]; omega, by have := HD.out; simpa using this, ?_⟩
            rw [HL.out, List.map_append]
            exact HZ.out
      · have hv := HV'.out
        rw [List.drop_of_length_le (by omega)] at hv
        have HD := Lib.hid hv
        clear hv
        go_wp2_with fail
        go_ret
        have : O = V := by rw [← HD.out]; simp [sv]
        subst this
        exact ⟨A, c, rfl, HE.out _ _ h2⟩
  · have hu : us = [] := by
      rcases hok with ⟨h1, _⟩ | ⟨_, h1, _⟩
      · exact absurd h1 hk1
      · exact h1
    subst hu
    rw [show usl ⟨kd, sz, [], pe⟩ g = .slice none 0 0 from rfl] at p2
    clear hok hul
    have h1 := h.alloc (.cells #[.int .i64 kd, .int .i64 sz, .slice none 0 0, .bool pe] 57)
    have H1 := Lib.hid h1
    clear h1 h hp
    by_cases hk2 : kd = 2
    · rw [show stP f n i ⟨kd, sz, [], pe⟩ = [f + i * n] from if_pos hk2]
      subst hk2
      clear hk1
      go_enter Try.func34, Try.ntmps34
      go_wp2_with fail
      generalize w.alloc (.cells #[.int .i64 2, .int .i64 sz, .slice none 0 0, .bool pe] 57) = w1 at H1 ⊢
      refine (begin_in i H1.out M.out (by omega)).mono ?_
      rintro e w2 ⟨rfl, k, rfl⟩
      have h3 := (H1.out.drewN k).new_row 3 #[.int .i64 (f + i * n)] (by simp)
      have H3 := Lib.hid h3
      clear h3 c2 p0 p1 p2 p3
      go_wp2_with fail
      go_ret
      exact ⟨_, _, rfl, H3.out⟩
    · rw [show stP f n i ⟨kd, sz, [], pe⟩ = [] from if_neg hk2]
      have e1 : (kd == 2) = false := by simpa using hk2
      have h3 := H1.out.nil_row 3
      have H3 := Lib.hid h3
      clear h3
      go_enter Try.func34, Try.ntmps34
      go_wp2_with fail
      refine wp_loop_rounds 1 ?_
      rw [rounds_succ]
      go_wp2_with fail
      go_ret
      exact ⟨none, 0, rfl, H3.out⟩
end
end Go.Proofs.Ytjgjablmkljfoaa.Ma
