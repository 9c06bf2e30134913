/- Texts of the whole heap, joined: MatE SepMore MatF MatG. No condition beside those that each lemma names. -/
import Derived.Test.YtihmkkjmnbehbaaGreatMg03
import Derived.Test.YtihmkkjmnbehbaaGreatMg01
/- Contracts of package mature: what begins in a page. No condition. -/
set_option linter.unusedVariables false
set_option linter.unusedSimpArgs false
namespace Go.Proofs.YtihmkkjmnbehbaaGreat.Ma
open Go.RowKit Go.Proofs.YtihmkkjmnbehbaaGreat.W Go.Proofs.YtihmkkjmnbehbaaGreat.Cl

theorem info_int : (Tryz.prog.info? 3).map (fun i => (i.zero, i.size, i.bytes)) = some (some (.int .i64 0), 1, 8) := by kernel_rfl
/-- What begins in a page of cells, from the k-th cell on; B: where the page begins. -/
def sv (B sz : Int) : List Bool → Nat → List Int
  | [], _ => []
  | x :: r, k => (if x then [B + k * sz] else []) ++ sv B sz r (k + 1)
def stP (f n : Int) (i : Nat) (p : Pg) : List Int := if p.kind = 2 then [f + i * n] else sv (f + i * n) p.size p.used 0
theorem sv_len (B sz : Int) (u : List Bool) (k : Nat) : (sv B sz u k).length ≤ u.length := by
  induction u generalizing k with
  | nil => exact Nat.le_refl _
  | cons x r ih =>
    unfold sv
    have := ih (k + 1)
    rw [List.length_append, List.length_cons]
    split <;> simp <;> omega
theorem sv_drop {B sz : Int} {u : List Bool} {j : Nat} (hj : j < u.length) : sv B sz (u.drop j) j = (if u[j]?.getD false then [B + j * sz] else []) ++ sv B sz (u.drop (j + 1)) (j + 1) := by
  rw [List.drop_eq_getElem_cons hj, List.getElem?_eq_getElem hj]
  rfl
section
variable {W w : World} {oo : Nat → Prop} {b L : Nat} {f n : Int} {lg : List (Pg × Nat)}
theorem begin_sep {l : List Pr} (i : Nat) (h : SepO W oo w (mparts b L f n lg ++ l)) (m : MW f n lg) (hi : i ≤ 64) : Calls Tryz.prog 163 #[pt b, .int .i64 i] w fun e w' => e = .returned (.int .i64 (f + i * n)) ∧ SepO W oo w' (mparts b L f n lg ++ l) :=
  (begin_in i (SepO.first h) m hi).mono (by rintro e w' ⟨he, k, rfl⟩; exact ⟨he, h.drewN k⟩)
theorem begin_b (m : MW f n lg) {i : Nat} (hi : i ≤ 64) : 0 ≤ f + i * n ∧ f + i * n ≤ 1048576 + 16384 := by
  have hx0 : 0 ≤ (i : Int) * n := Int.mul_nonneg (by omega) (by have := m.n0; omega)
  have h1 := Int.mul_le_mul_of_nonneg_right (by omega : (i : Int) ≤ 64) (by have := m.n0; omega : 0 ≤ n)
  have := m.n1
  have := m.f0
  have := m.f1
  omega
set_option maxRecDepth 20000 in
set_option maxHeartbeats 2000000 in
theorem starts_in (i : Nat) {p : Pg × Nat} (hp : lg[i]? = some p) (h : SepO W oo w (mparts b L f n lg)) (m : MW f n lg) :
    Calls Tryz.prog 131 #[pt b, .int .i64 i] w fun e w' => ∃ A c, e = .returned (.slice A (stP f n i p.1).length c) ∧ SepO W oo w' (mparts b L f n lg ++ [rowP 3 A (stP f n i p.1).length c ((stP f n i p.1).map (Value.int .i64))]) := by
  have c2 := (m_blk h).cell 2
  simp at c2
  obtain ⟨p0, p1, p2, p3⟩ := m_page h hp
  have hil : i < lg.length := (List.getElem?_eq_some_iff.1 hp).1
  have hl := m.len
  have n0 := m.n0
  have n1 := m.n1
  have hok := m.page p (List.mem_of_getElem? hp)
  have hul := used_le hok n1 n0
  obtain ⟨hB0, hB1⟩ := begin_b m (i := i) (by omega)
  have M := Lib.hid m
  clear m
  obtain ⟨⟨kd, sz, us, pe⟩, g⟩ := p
  simp only [Pg.ok] at *
  by_cases hk1 : kd = 1
  · subst hk1
    obtain ⟨k0, k1, k2⟩ : 1 ≤ sz ∧ sz ≤ n ∧ (us.length : Int) = n / sz := by
      rcases hok with ⟨_, h1, h2, h3⟩ | ⟨h1, _⟩
      · exact ⟨h1, h2, h3⟩
      · exact absurd rfl h1
    have hne' : us ≠ [] := by
      intro he
      rw [he] at k2
      have h1 := (Int.le_ediv_iff_mul_le (a := 1) (b := n) (by omega : 0 < sz)).2 (by omega)
      simp at k2
      omega
    have hne : us.isEmpty = false := by cases us <;> simp at hne' ⊢
    have hus : usl ⟨1, sz, us, pe⟩ g = .slice (some ⟨g, 0, none⟩) us.length us.length := by unfold usl; rw [if_neg (by simp [hne])]
    rw [hus] at p2
    have HK := Lib.hid k2
    have hV : stP f n i ⟨1, sz, us, pe⟩ = sv (f + i * n) sz us 0 := rfl
    rw [hV]
    obtain ⟨V, hV'⟩ : ∃ V, sv (f + i * n) sz us 0 = V := ⟨_, rfl⟩
    rw [hV']
    have HV := Lib.hid hV'
    have HP := Lib.hid hp
    obtain ⟨B, hB⟩ : ∃ B, f + (i : Int) * n = B := ⟨_, rfl⟩
    rw [hB] at hB0 hB1
    have HB := Lib.hid hB
    obtain ⟨ii, hi, hz, hs, hby⟩ := info_parts info_int
    have h1 := h.new_blk 92 #[.int .i64 1, .int .i64 sz, .slice (some ⟨g, 0, none⟩) us.length us.length, .bool pe]
    obtain ⟨X, hX⟩ : ∃ X, w.heap.size = X := ⟨_, rfl⟩
    rw [hX] at h1
    have H1 := Lib.hid h1
    have HX := Lib.hid hX
    have H0 := Lib.hid h
    clear hX
    clear hok k2 hV hV' hp hus hB h h1
    go_enter Tryz.func131, Tryz.ntmps131
    go_wp2_with fail
    rw [HX.out]
    generalize w.alloc (.cells #[.int .i64 1, .int .i64 sz, .slice (some ⟨g, 0, none⟩) us.length us.length, .bool pe] 92) = w1 at H1 ⊢
    have HBg : ∀ (w' : World) (P : Pr), SepO W oo w' ((mparts b L f n lg ++ [blkP X 92 #[.int .i64 1, .int .i64 sz, .slice (some ⟨g, 0, none⟩) us.length us.length, .bool pe]]) ++ [P]) → Calls Tryz.prog 163 #[pt b, .int .i64 i] w' fun e w'' => e = .returned (.int .i64 B) ∧ SepO W oo w'' ((mparts b L f n lg ++ [blkP X 92 #[.int .i64 1, .int .i64 sz, .slice (some ⟨g, 0, none⟩) us.length us.length, .bool pe]]) ++ [P]) := fun w' P hh => by
      rw [List.append_assoc] at hh ⊢
      have := begin_sep i hh M.out (by omega)
      rw [HB.out] at this
      exact this
    have HXc : ∀ (w' : World) (P : Pr), SepO W oo w' ((mparts b L f n lg ++ [blkP X 92 #[.int .i64 1, .int .i64 sz, .slice (some ⟨g, 0, none⟩) us.length us.length, .bool pe]]) ++ [P]) → w'.cell? ⟨X, 1, none⟩ = some (.int .i64 sz) := fun w' P hh => (hh.blk _ (at_left at_last)).cell 1
    have HUc : ∀ (w' : World) (P : Pr), SepO W oo w' ((mparts b L f n lg ++ [blkP X 92 #[.int .i64 1, .int .i64 sz, .slice (some ⟨g, 0, none⟩) us.length us.length, .bool pe]]) ++ [P]) → ∀ k, k < us.length → w'.cell? ⟨g, k, none⟩ = some (.bool (us[k]?.getD false)) := fun w' P hh k hk => by
      rw [((hh.first).blk (i + 2) (at_left (m_used H0.out HP.out hne'))).cell, bools_get hk]
    have hend : ∀ (w' : World) (P : Pr), SepO W oo w' ((mparts b L f n lg ++ [blkP X 92 #[.int .i64 1, .int .i64 sz, .slice (some ⟨g, 0, none⟩) us.length us.length, .bool pe]]) ++ [P]) → SepO W oo w' (mparts b L f n lg ++ [P]) := fun w' P hh => by
      rw [List.append_assoc] at hh
      exact hh.drop_mid
    have HN := Lib.hid ((H1.out).nil_row 3)
    generalize mparts b L f n lg ++ [blkP X 92 #[.int .i64 1, .int .i64 sz, .slice (some ⟨g, 0, none⟩) us.length us.length, .bool pe]] = l at HBg HXc HUc hend HN
    have HBG := Lib.hid HBg
    have HXC := Lib.hid HXc
    have HUC := Lib.hid HUc
    have HE := Lib.hid hend
    clear HBg HXc HUc hend H1 HX H0 c2 p0 p1 p2 p3
    go_loopg [6, 26] us.length (fun gk o z wr => ∃ (j : Nat) (A : Option Addr) (c : Nat) (O : List Int), j + gk = us.length ∧ z = .int .i64 j ∧ o = .slice A O.length c ∧ O.length ≤ j ∧ O ++ sv B sz (us.drop j) j = V ∧ SepO W oo wr (l ++ [rowP 3 A O.length c (O.map (Value.int .i64))]))
    case atStart => exact ⟨0, none, 0, [], by omega, rfl, rfl, by simp, by rw [← HV.out, HB.out]; rfl, HN.out⟩
    case round =>
      obtain ⟨j, A, c, O, hj, rfl, rfl, hO, hv, h2⟩ := hrel
      have HJ := Lib.hid hj
      have HV' := Lib.hid hv
      have hjl : j ≤ us.length := by omega
      clear hj hv
      by_cases hlt : j < us.length
      · have ei := HUC.out _ _ h2 j hlt
        have hd := sv_drop (B := B) (sz := sz) hlt
        cases hx : us[j]?.getD false
        · rw [hx] at ei hd
          have hv := HV'.out
          rw [hd] at hv
          have HD := Lib.hid hv
          have H2 := Lib.hid h2
          clear hx hd hv h2
          go_wp2_with fail
          go_roundg (gk - 1)
          case measure => have := HJ.out; omega
          case rel => exact ⟨j + 1, A, c, O, by have := HJ.out; omega, by go_num, rfl, by omega, by simpa using HD.out, H2.out⟩
        · rw [hx] at ei hd
          have hv := HV'.out
          rw [hd] at hv
          have HD := Lib.hid hv
          have hm0 : 0 ≤ (j : Int) * sz := Int.mul_nonneg (by omega) (by omega)
          have hm1 : (j : Int) * sz ≤ 256 * 256 := by
            have h1 := Int.mul_le_mul_of_nonneg_right (by omega : (j : Int) ≤ 256) (by omega : 0 ≤ sz)
            omega
          have s1 := IntWalk.i64_in ((j : Int) * sz) (by omega)
          have s2 := IntWalk.i64_in (B + (j : Int) * sz) (by omega)
          have x1 := HXC.out _ _ h2
          clear hx hd hv
          go_wp2_with fail
          replace h2 := h2.drew
          replace x1 := HXC.out _ _ h2
          go_region_held3 (fun w' => w'.cell? ⟨X, 1, none⟩ = some (.int .i64 sz)) (first | exact x1 | exact y1 | exact z1 | go_keep) ((first | (go_at_call 163; (with_reducible refine (HBG.out _ _ h2).mono ?_); rintro e w5 ⟨rfl, h5⟩; have y1 := HXC.out _ _ h5) | (refine step_append_sep rfl _ _ 53 rfl 3 ii (.int .i64 0) 8 Tryz.underlying53 hi hz hs hby rfl A O.length c (O.map (Value.int .i64)) rfl _ (.int .i64 (B + (j : Int) * sz)) rfl (h5.alloc _) (by simp) rfl (by omega) (by omega) ?_; intro A' c' w6 h6; have z1 := HXC.out _ _ h6)))
          have HZ := Lib.hid h6
          have he : (O ++ [B + (j : Int) * sz]).length = O.length + 1 := by simp
          have HL := Lib.hid he
          clear h2 h5 h6 x1 y1 z1 he
          go_wp2_with fail
          go_roundg (gk - 1)
          case measure => have := HJ.out; omega
          case rel =>
            refine ⟨j + 1, A', c', O ++ [B + (j : Int) * sz], by have := HJ.out; omega, by go_num, by rw [HL.out], by rw [HL.out]; omega, by have := HD.out; simpa using this, ?_⟩
            rw [HL.out, List.map_append]
            exact HZ.out
      · have hv := HV'.out
        rw [List.drop_of_length_le (by omega)] at hv
        have HD := Lib.hid hv
        clear hv
        go_wp2_with fail
        go_ret
        have : O = V := by rw [← HD.out]; simp [sv]
        subst this
        exact ⟨A, c, rfl, HE.out _ _ h2⟩
  · have hu : us = [] := by
      rcases hok with ⟨h1, _⟩ | ⟨_, h1, _⟩
      · exact absurd h1 hk1
      · exact h1
    subst hu
    rw [show usl ⟨kd, sz, [], pe⟩ g = .slice none 0 0 from rfl] at p2
    clear hok hul
    have h1 := h.alloc (.cells #[.int .i64 kd, .int .i64 sz, .slice none 0 0, .bool pe] 92)
    have H1 := Lib.hid h1
    clear h1 h hp
    by_cases hk2 : kd = 2
    · rw [show stP f n i ⟨kd, sz, [], pe⟩ = [f + i * n] from if_pos hk2]
      subst hk2
      clear hk1
      go_enter Tryz.func131, Tryz.ntmps131
      go_wp2_with fail
      generalize w.alloc (.cells #[.int .i64 2, .int .i64 sz, .slice none 0 0, .bool pe] 92) = w1 at H1 ⊢
      refine (begin_in i H1.out M.out (by omega)).mono ?_
      rintro e w2 ⟨rfl, k, rfl⟩
      have h3 := (H1.out.drewN k).new_row 3 #[.int .i64 (f + i * n)] (by simp)
      have H3 := Lib.hid h3
      clear h3 c2 p0 p1 p2 p3
      go_wp2_with fail
      go_ret
      exact ⟨_, _, rfl, H3.out⟩
    · rw [show stP f n i ⟨kd, sz, [], pe⟩ = [] from if_neg hk2]
      have e1 : (kd == 2) = false := by simpa using hk2
      have h3 := H1.out.nil_row 3
      have H3 := Lib.hid h3
      clear h3
      go_enter Tryz.func131, Tryz.ntmps131
      go_wp2_with fail
      refine wp_loop_rounds 1 ?_
      rw [rounds_succ]
      go_wp2_with fail
      go_ret
      exact ⟨none, 0, rfl, H3.out⟩
end
end Go.Proofs.YtihmkkjmnbehbaaGreat.Ma
/- Many parts as one, and back. No condition. -/
set_option linter.unusedVariables false
set_option linter.unusedSimpArgs false
namespace Go.Proofs.YtihmkkjmnbehbaaGreat.W
open Go.RowKit
section
variable {W w : World} {oo : Nat → Prop} {A l : List Pr} {Q : Pr}
theorem SepO.split_last (h : SepO W oo w (sepP (A ++ [Q]) :: l)) : SepO W oo w (sepP A :: l ++ [Q]) := by
  obtain ⟨own, hk, hs⟩ := h
  obtain ⟨own2, hs2⟩ := hs 0 _ rfl
  refine ⟨fun i => if own i = 0 then (if own2 i < A.length then 0 else if own2 i = A.length then l.length + 1 else l.length + 2) else if own i ≤ l.length then own i else l.length + 2, hk, fun j R hj => ?_⟩
  cases j with
  | zero =>
    simp at hj
    subst hj
    refine ⟨own2, fun k P hP => P.mono (hs2 k P (by rw [List.getElem?_append_left (List.getElem?_eq_some_iff.1 hP).1]; exact hP)) (fun i hi => ?_)⟩
    have hkl := (List.getElem?_eq_some_iff.1 hP).1
    exact ⟨⟨⟨hi.1.1.1, by simp only []; rw [if_pos hi.1.1.2, if_pos (by omega)]⟩, hi.1.2⟩, hi.2⟩
  | succ j =>
    simp only [List.cons_append, List.getElem?_cons_succ] at hj
    rcases Nat.lt_or_ge j l.length with hlt | hge
    · rw [List.getElem?_append_left hlt] at hj
      refine R.mono (hs (j + 1) R hj) (fun i hi => ⟨hi.1, ?_⟩)
      simp only []
      rw [hi.2, if_neg (by omega), if_pos (by omega)]
    · rw [List.getElem?_append_right hge] at hj
      have h0 : j - l.length = 0 := by
        rcases Nat.eq_zero_or_pos (j - l.length) with h | h
        · exact h
        · rw [List.getElem?_eq_none (by simp; omega)] at hj; cases hj
      rw [h0] at hj
      simp at hj
      subst hj
      have hjl : j = l.length := by omega
      subst hjl
      refine Pr.mono _ (hs2 A.length Q (by simp)) (fun i hi => ⟨hi.1.1.1, ?_⟩)
      simp only []
      rw [if_pos hi.1.1.2, if_neg (by omega), if_pos hi.2]
/-- Parts as one part. -/
theorem SepO.pack (h : SepO W oo w l) : SepO W oo w [sepP l] := by
  obtain ⟨own, hk, hs⟩ := h
  refine ⟨fun _ => 0, hk, fun j R hj => ?_⟩
  cases j with
  | succ j => simp at hj
  | zero =>
    simp at hj
    subst hj
    exact ⟨own, fun k P hP => P.mono (hs k P hP) (fun i hi => ⟨⟨⟨hi.1, rfl⟩, hi.1.2⟩, hi.2⟩)⟩
theorem SepO.unpack (h : SepO W oo w (sepP A :: l)) : SepO W oo w (A ++ l) := by
  obtain ⟨own, hk, hs⟩ := h
  obtain ⟨own2, hs2⟩ := hs 0 _ rfl
  refine ⟨fun i => if own i = 0 then (if own2 i < A.length then own2 i else A.length + l.length) else A.length + (own i - 1), hk, fun j R hj => ?_⟩
  rcases Nat.lt_or_ge j A.length with hlt | hge
  · rw [List.getElem?_append_left hlt] at hj
    refine R.mono (hs2 j R hj) (fun i hi => ⟨hi.1.1.1, ?_⟩)
    simp only []
    rw [if_pos hi.1.1.2, if_pos (by omega), hi.2]
  · rw [List.getElem?_append_right hge] at hj
    refine R.mono (hs (j - A.length + 1) R hj) (fun i hi => ⟨hi.1, ?_⟩)
    simp only []
    rw [hi.2, if_neg (by omega)]
    omega
/-- The first part is many: it is opened, and what comes of it is put back. -/
theorem SepO.lift (h : SepO W oo w (sepP A :: l)) : ∃ o : Nat → Prop, SepO w o w A ∧ ∀ (w' : World) (A' : List Pr), SepO w o w' A' → SepO W oo w' (sepP A' :: l) := by
  obtain ⟨o, hs, _, hup⟩ := h.open_ 0 rfl
  refine ⟨o, SepO.enter hs, fun w' A' h' => ?_⟩
  have hk : Keep o w w' := by obtain ⟨_, hk, _⟩ := h'; exact hk
  exact hup w' (sepP A') h'.leave hk
end
end Go.Proofs.YtihmkkjmnbehbaaGreat.W
/- Contracts of package mature: how much is used. No condition. -/
set_option linter.unusedVariables false
set_option linter.unusedSimpArgs false
namespace Go.Proofs.YtihmkkjmnbehbaaGreat.Ma
open Go.RowKit Go.Proofs.YtihmkkjmnbehbaaGreat.W Go.Proofs.YtihmkkjmnbehbaaGreat.Cl

def usP (f n : Int) (l : List Pg) : List Int → Int
  | [] => 0
  | x :: r => szO n l (atO f n l x) + usP f n l r
def usL (f n : Int) (l : List Pg) : List Pg → Nat → Int
  | [], _ => 0
  | p :: r, i => usP f n l (stP f n i p) + usL f n l r (i + 1)
theorem sv_mem {B sz : Int} {u : List Bool} {k : Nat} {x : Int} (h : x ∈ sv B sz u k) : ∃ j : Nat, k ≤ j ∧ j < k + u.length ∧ x = B + j * sz := by
  induction u generalizing k with
  | nil => cases h
  | cons y r ih =>
    unfold sv at h
    rcases List.mem_append.1 h with h | h
    · split at h
      · exact ⟨k, by omega, by simp, by simpa using h⟩
      · cases h
    · obtain ⟨j, h1, h2, h3⟩ := ih h
      exact ⟨j, by omega, by simp; omega, h3⟩
section
variable {W w : World} {oo : Nat → Prop} {b L : Nat} {f n : Int} {lg : List (Pg × Nat)} {l : List Pr}
theorem stP_b (m : MW f n lg) {i : Nat} {p : Pg × Nat} (hp : lg[i]? = some p) : (stP f n i p.1).length ≤ 256 ∧ ∀ x ∈ stP f n i p.1, 0 ≤ x ∧ x ≤ 2000000 := by
  have hil : i < lg.length := (List.getElem?_eq_some_iff.1 hp).1
  have hl := m.len
  have hok := m.page p (List.mem_of_getElem? hp)
  have hul := used_le hok m.n1 m.n0
  obtain ⟨hB0, hB1⟩ := begin_b m (i := i) (by omega)
  unfold stP
  split
  · simp; omega
  · refine ⟨Nat.le_trans (sv_len _ _ _ _) hul, fun x hx => ?_⟩
    obtain ⟨j, _, h1, rfl⟩ := sv_mem hx
    have hn1 := m.n1
    rcases hok with ⟨_, s0, s1, _⟩ | ⟨_, hu, _⟩
    · have a0 : 0 ≤ (j : Int) * p.1.size := Int.mul_nonneg (by omega) (by omega)
      have a1 := Int.mul_le_mul_of_nonneg_right (by omega : (j : Int) ≤ 256) (by omega : 0 ≤ p.1.size)
      omega
    · rw [hu] at h1; simp at h1
theorem szO_b (m : MW f n lg) (x : Int) : 0 ≤ szO n (lg.map (·.1)) (atO f n (lg.map (·.1)) x) ∧ szO n (lg.map (·.1)) (atO f n (lg.map (·.1)) x) ≤ 16384 := by
  have hn1 := m.n1
  cases ho : atO f n (lg.map (·.1)) x with
  | none => exact ⟨Int.le_refl _, (by omega : (0 : Int) ≤ 16384)⟩
  | some y =>
    obtain ⟨i, k⟩ := y
    obtain ⟨-, -, q, hq, hk⟩ := atO_some ho
    rw [List.getElem?_map] at hq
    obtain ⟨p, hp, rfl⟩ := Option.map_eq_some_iff.1 hq
    have hsz : szO n (lg.map (·.1)) (some (i, k)) = szP n p.1 := by unfold szO; simp only [List.getElem?_map, hp, Option.map_some]
    rw [hsz]
    unfold szP
    split
    · rename_i h2
      obtain ⟨_, _, _, _, h5, h6⟩ := m.big_b hp h2
      omega
    · rcases m.page p (List.mem_of_getElem? hp) with ⟨_, s0, s1, _⟩ | ⟨h1, _⟩
      · omega
      · rcases hk with ⟨h, _⟩ | ⟨h, _⟩
        · exact absurd h (by assumption)
        · exact absurd h h1
theorem usP_drop {l : List Pg} {V : List Int} {t : Nat} {x : Int} (h : V[t]? = some x) : usP f n l (V.drop t) = szO n l (atO f n l x) + usP f n l (V.drop (t + 1)) := by
  have ht := (List.getElem?_eq_some_iff.1 h).1
  rw [List.drop_eq_getElem_cons ht]
  have : V[t] = x := by rw [List.getElem?_eq_getElem ht] at h; simpa using h
  rw [this]
  rfl
theorem usL_drop {l V : List Pg} {j : Nat} {p : Pg} (h : V[j]? = some p) : usL f n l (V.drop j) j = usP f n l (stP f n j p) + usL f n l (V.drop (j + 1)) (j + 1) := by
  have ht := (List.getElem?_eq_some_iff.1 h).1
  rw [List.drop_eq_getElem_cons ht]
  have : V[j] = p := by rw [List.getElem?_eq_getElem ht] at h; simpa using h
  rw [this]
  rfl
theorem Size_at (x : Int) (h : SepO W oo w (sepP (mparts b L f n lg) :: l)) (m : MW f n lg) (hx : -9223372036854775808 ≤ x ∧ x ≤ 9223372036854775807) :
    Calls Tryz.prog 25 #[pt b, .int .i64 x] w fun e w' => e = .returned (.tuple #[.int .i64 (szO n (lg.map (·.1)) (atO f n (lg.map (·.1)) x)), .bool (atO f n (lg.map (·.1)) x).isSome]) ∧ SepO W oo w' (sepP (mparts b L f n lg) :: l) := by
  obtain ⟨o, h1, hup⟩ := h.lift
  exact (Size_in x h1 m hx).mono (fun e w' he => ⟨he.1, hup _ _ he.2⟩)
theorem starts_at (i : Nat) {p : Pg × Nat} (hp : lg[i]? = some p) (h : SepO W oo w (sepP (mparts b L f n lg) :: l)) (m : MW f n lg) :
    Calls Tryz.prog 131 #[pt b, .int .i64 i] w fun e w' => ∃ A c, e = .returned (.slice A (stP f n i p.1).length c) ∧ SepO W oo w' (sepP (mparts b L f n lg) :: l ++ [rowP 3 A (stP f n i p.1).length c ((stP f n i p.1).map (Value.int .i64))]) := by
  obtain ⟨o, h1, hup⟩ := h.lift
  refine (starts_in i hp h1 m).mono ?_
  rintro e w' ⟨A, c, he, h2⟩
  exact ⟨A, c, he, (hup _ _ h2).split_last⟩
set_option maxRecDepth 20000 in
set_option maxHeartbeats 2000000 in
theorem Used_in (h0 : SepO W oo w (mparts b L f n lg)) (m : MW f n lg) :
    Calls Tryz.prog 92 #[pt b] w fun e w' => e = .returned (.int .i64 (usL f n (lg.map (·.1)) (lg.map (·.1)) 0)) ∧ SepO W oo w' (mparts b L f n lg) := by
  have c2 := (m_blk h0).cell 2
  simp at c2
  have hl := m.len
  obtain ⟨T, hT⟩ : ∃ T, usL f n (lg.map (·.1)) (lg.map (·.1)) 0 = T := ⟨_, rfl⟩
  rw [hT]
  have HT := Lib.hid hT
  have M := Lib.hid m
  have h := h0.pack
  clear h0 hT m
  go_enter Tryz.func92, Tryz.ntmps92
  go_wp2_with fail
  go_loopg [3, 16] lg.length (fun gk o z wr => ∃ (j : Nat) (O : Int), j + gk = lg.length ∧ z = .int .i64 j ∧ o = .int .i64 O ∧ 0 ≤ O ∧ O ≤ j * 4194304 ∧ O + usL f n (lg.map (·.1)) ((lg.map (·.1)).drop j) j = T ∧ SepO W oo wr [sepP (mparts b L f n lg)])
  case atStart => exact ⟨0, 0, by omega, rfl, rfl, by omega, by omega, by simpa using HT.out, h⟩
  case round =>
    clear h c2
    obtain ⟨j, O, hj, rfl, rfl, O0, O1, hv, h⟩ := hrel
    have HJ := Lib.hid hj
    have HV := Lib.hid hv
    have hjl : j ≤ lg.length := by omega
    clear hj hv
    by_cases hlt : j < lg.length
    · obtain ⟨p, hp⟩ : ∃ p, lg[j]? = some p := ⟨lg[j], List.getElem?_eq_getElem hlt⟩
      have hpp : (lg.map (·.1))[j]? = some p.1 := by rw [List.getElem?_map, hp]; rfl
      have hv := HV.out
      rw [usL_drop hpp] at hv
      obtain ⟨hV0, hVb⟩ := stP_b M.out hp
      have HVB := Lib.hid hVb
      have HP := Lib.hid hp
      have hst := starts_at j hp h M.out
      generalize stP f n j p.1 = V at hv hV0 HVB hst hVb
      have HD := Lib.hid hv
      have HST := Lib.hid hst
      clear hv hpp hp hst hVb HV
      go_wp2_with fail
      refine HST.out.mono ?_
      rintro e w1 ⟨A, c, rfl, h1⟩
      clear h HST
      simp only [List.cons_append, List.nil_append] at h1
      go_wp2_with fail
      obtain ⟨gz, rfl⟩ : ∃ x, x = gk := ⟨_, rfl⟩
      go_loopg [3, 23] V.length (fun gt o z wx => ∃ (t : Nat) (S : Int), t + gt = V.length ∧ z = .int .i64 t ∧ o = .int .i64 S ∧ 0 ≤ S ∧ S ≤ j * 4194304 + t * 16384 ∧ S + (usP f n (lg.map (·.1)) (V.drop t) + usL f n (lg.map (·.1)) ((lg.map (·.1)).drop (j + 1)) (j + 1)) = T ∧ SepO W oo wx [sepP (mparts b L f n lg), rowP 3 A V.length c (V.map (Value.int .i64))])
      case atStart => exact ⟨0, O, by omega, rfl, rfl, O0, by omega, by simpa using HD.out, h1⟩
      case round =>
        clear h1
        obtain ⟨t, S, ht, rfl, rfl, S0, S1, hv, h⟩ := hrel
        have HI := Lib.hid ht
        have HV := Lib.hid hv
        have htl : t ≤ V.length := by omega
        clear ht hv
        by_cases hlt' : t < V.length
        · obtain ⟨x, hx⟩ : ∃ x, V[t]? = some x := ⟨V[t], List.getElem?_eq_getElem hlt'⟩
          obtain ⟨hx0, hx1⟩ := HVB.out x (List.mem_of_getElem? hx)
          have hv := HV.out
          rw [usP_drop hx] at hv
          obtain ⟨z0, z1⟩ := szO_b M.out x
          obtain ⟨oq, hq, _⟩ := h.row 1 rfl
          obtain ⟨g, off, rfl, _, _, hcell, _⟩ := hq.at_ (i := t) (by omega)
          have y0 := hcell t hlt'
          simp [hx] at y0
          have hsz := Size_at x h M.out (by omega)
          generalize szO n (lg.map (·.1)) (atO f n (lg.map (·.1)) x) = s at hv z0 z1 hsz
          have HD' := Lib.hid hv
          have HS := Lib.hid hsz
          clear hv hsz hq hcell hx h HV
          go_wp2_with fail
          refine HS.out.mono ?_
          rintro e w2 ⟨rfl, h2⟩
          go_wp2_with fail
          go_roundg (gk - 1)
          case measure => have := HI.out; omega
          case rel => exact ⟨t + 1, S + s, by have := HI.out; omega, by go_num, rfl, by omega, by omega, by have := HD'.out; omega, h2⟩
        · have hv := HV.out
          rw [List.drop_of_length_le (by omega)] at hv
          have hte : t = V.length := by omega
          have HD' := Lib.hid hv
          have h2 := h.first (l := [_])
          clear hv HV h
          go_wp2_with fail
          go_roundg (gz - 1)
          case measure => have := HJ.out; omega
          case rel => exact ⟨j + 1, S, by have := HJ.out; omega, by go_num, rfl, S0, by omega, by have := HD'.out; simp only [usP] at this; omega, h2⟩
    · have hv := HV.out
      rw [List.drop_of_length_le (by simpa using Nat.le_of_not_lt hlt)] at hv
      have HD := Lib.hid hv
      clear hv HV
      have h2 := h.unpack
      rw [List.append_nil] at h2
      have H2 := Lib.hid h2
      go_wp2_with fail
      go_ret
      exact ⟨by rw [← HD.out]; simp [usL], H2.out⟩
end
end Go.Proofs.YtihmkkjmnbehbaaGreat.Ma
/- Contracts of package mature: what begins in a part. No condition. -/
set_option linter.unusedVariables false
set_option linter.unusedSimpArgs false
namespace Go.Proofs.YtihmkkjmnbehbaaGreat.Ma
open Go.RowKit Go.Proofs.YtihmkkjmnbehbaaGreat.W Go.Proofs.YtihmkkjmnbehbaaGreat.Cl

def inn (fr te : Int) (xs : List Int) : List Int := xs.filter (fun x => decide (fr ≤ x) && decide (x < te))
def stL (f n fr te : Int) : List Pg → Nat → List Int
  | [], _ => []
  | p :: r, i => (if f + i * n + n ≤ fr ∨ te ≤ f + i * n then [] else inn fr te (stP f n i p)) ++ stL f n fr te r (i + 1)
section
variable {W w : World} {oo : Nat → Prop} {b L : Nat} {f n : Int} {lg : List (Pg × Nat)} {l : List Pr}
theorem inn_drop {fr te : Int} {V : List Int} {t : Nat} {x : Int} (h : V[t]? = some x) : inn fr te (V.drop t) = (if fr ≤ x ∧ x < te then [x] else []) ++ inn fr te (V.drop (t + 1)) := by
  have ht := (List.getElem?_eq_some_iff.1 h).1
  rw [List.drop_eq_getElem_cons ht]
  have : V[t] = x := by rw [List.getElem?_eq_getElem ht] at h; simpa using h
  rw [this]
  unfold inn
  rw [List.filter_cons]
  by_cases h1 : fr ≤ x <;> by_cases h2 : x < te <;> simp [h1, h2]
theorem stL_drop {fr te : Int} {V : List Pg} {j : Nat} {p : Pg} (h : V[j]? = some p) : stL f n fr te (V.drop j) j = (if f + j * n + n ≤ fr ∨ te ≤ f + j * n then [] else inn fr te (stP f n j p)) ++ stL f n fr te (V.drop (j + 1)) (j + 1) := by
  have ht := (List.getElem?_eq_some_iff.1 h).1
  rw [List.drop_eq_getElem_cons ht]
  have : V[j] = p := by rw [List.getElem?_eq_getElem ht] at h; simpa using h
  rw [this]
  rfl
set_option maxRecDepth 20000 in
set_option maxHeartbeats 4000000 in
theorem Starts_in (fr te : Int) (h0 : SepO W oo w (mparts b L f n lg)) (m : MW f n lg) :
    Calls Tryz.prog 151 #[pt b, .int .i64 fr, .int .i64 te] w fun e w' => ∃ A c, e = .returned (.slice A (stL f n fr te (lg.map (·.1)) 0).length c) ∧ SepO W oo w' (sepP (mparts b L f n lg) :: [rowP 3 A (stL f n fr te (lg.map (·.1)) 0).length c ((stL f n fr te (lg.map (·.1)) 0).map (Value.int .i64))]) := by
  have c2 := (m_blk h0).cell 2
  simp at c2
  have hl := m.len
  obtain ⟨ii, hi, hz, hs, hby⟩ := info_parts info_int
  obtain ⟨T, hT⟩ : ∃ T, stL f n fr te (lg.map (·.1)) 0 = T := ⟨_, rfl⟩
  rw [hT]
  have HT := Lib.hid hT
  have M := Lib.hid m
  have h := (h0.pack).nil_row 3
  simp only [List.cons_append, List.nil_append] at h
  clear h0 hT m
  go_enter Tryz.func151, Tryz.ntmps151
  go_wp2_with fail
  go_loopg [7, 18] lg.length (fun gk o z wr => ∃ (j : Nat) (A : Option Addr) (c : Nat) (O : List Int), j + gk = lg.length ∧ z = .int .i64 j ∧ o = .slice A O.length c ∧ O.length ≤ j * 256 ∧ O ++ stL f n fr te ((lg.map (·.1)).drop j) j = T ∧ SepO W oo wr [sepP (mparts b L f n lg), rowP 3 A O.length c (O.map (Value.int .i64))])
  case atStart => exact ⟨0, none, 0, [], by omega, rfl, rfl, by simp, by simpa using HT.out, h⟩
  case round =>
    clear h c2
    obtain ⟨j, A, c, O, hj, rfl, rfl, hO, hv, h⟩ := hrel
    have HJ := Lib.hid hj
    have HV := Lib.hid hv
    have hjl : j ≤ lg.length := by omega
    clear hj hv
    by_cases hlt : j < lg.length
    · obtain ⟨p, hp⟩ : ∃ p, lg[j]? = some p := ⟨lg[j], List.getElem?_eq_getElem hlt⟩
      have hpp : (lg.map (·.1))[j]? = some p.1 := by rw [List.getElem?_map, hp]; rfl
      have hv := HV.out
      rw [stL_drop hpp] at hv
      obtain ⟨hV0, -⟩ := stP_b M.out hp
      have h9 : SepO W oo wr (mparts b L f n lg) := (h.unpack).first
      have hbg : ∀ q, Calls Tryz.prog 163 #[pt b, .int .i64 (j : Int)] (wr.drewN q) fun e w' => e = .returned (.int .i64 (f + j * n)) ∧ ∃ r, w' = (wr.drewN q).drewN r := fun q => begin_in j (h9.drewN q) M.out (by omega)
      obtain ⟨B0, B1⟩ := begin_b M.out (i := j) (by omega)
      have c1 := (m_blk h9).cell 1
      simp at c1
      have n0 := M.out.n0
      have n1 := M.out.n1
      have hst := fun q => starts_at j hp (h.drewN q) M.out
      obtain ⟨B, hB⟩ : ∃ B, f + (j : Int) * n = B := ⟨_, rfl⟩
      simp only [hB] at hbg hv
      rw [hB] at B0 B1
      generalize stP f n j p.1 = V at hv hV0 hst
      have s1 := IntWalk.i64_in (B + n) (by omega)
      have HD := Lib.hid hv
      have HST := Lib.hid hst
      have HBG := Lib.hid hbg
      have HH := Lib.hid h
      clear hv hpp hp hst hbg hB HV h9 h
      by_cases t1 : B + n ≤ fr
      · have d1 : decide (B + n ≤ fr) = true := by simpa using t1
        have hv := HD.out
        rw [if_pos (.inl t1)] at hv
        have HV := Lib.hid hv
        clear hv HD t1
        go_wp2_with fail
        go_quiet ((go_at_call 163; exact Calls.quiet_of (HBG.out _)))
        go_wp2_with fail
        go_roundg (gk - 1)
        case measure => have := HJ.out; omega
        case rel => exact ⟨j + 1, A, c, O, by have := HJ.out; omega, by go_num, rfl, by omega, by simpa using HV.out, HH.out.drewN _⟩
      · have d1 : decide (B + n ≤ fr) = false := by simpa using t1
        by_cases t2 : te ≤ B
        · have d2 : decide (te ≤ B) = true := by simpa using t2
          have hv := HD.out
          rw [if_pos (.inr t2)] at hv
          have HV := Lib.hid hv
          clear hv HD t1 t2
          go_wp2_with fail
          go_quiet ((go_at_call 163; exact Calls.quiet_of (HBG.out _)))
          go_wp2_with fail
          go_roundg (gk - 1)
          case measure => have := HJ.out; omega
          case rel => exact ⟨j + 1, A, c, O, by have := HJ.out; omega, by go_num, rfl, by omega, by simpa using HV.out, HH.out.drewN _⟩
        · have d2 : decide (te ≤ B) = false := by simpa using t2
          have hv := HD.out
          rw [if_neg (fun h => by rcases h with h | h <;> contradiction)] at hv
          have HV := Lib.hid hv
          clear hv HD t1 t2
          go_wp2_with fail
          go_quiet ((go_at_call 163; exact Calls.quiet_of (HBG.out _)))
          go_wp2_with fail
          refine (HST.out _).mono ?_
          rintro e w1 ⟨AV, cV, rfl, h1⟩
          simp only [List.cons_append, List.nil_append] at h1
          clear HH HST HBG c1
          go_wp2_with fail
          obtain ⟨gz, rfl⟩ : ∃ x, x = gk := ⟨_, rfl⟩
          go_loopg [7, 42] V.length (fun gt o z wx => ∃ (t : Nat) (A : Option Addr) (c : Nat) (O : List Int), t + gt = V.length ∧ z = .int .i64 t ∧ o = .slice A O.length c ∧ O.length ≤ j * 256 + t ∧ O ++ (inn fr te (V.drop t) ++ stL f n fr te ((lg.map (·.1)).drop (j + 1)) (j + 1)) = T ∧ SepO W oo wx [sepP (mparts b L f n lg), rowP 3 A O.length c (O.map (Value.int .i64)), rowP 3 AV V.length cV (V.map (Value.int .i64))])
          case atStart => exact ⟨0, A, c, O, by omega, rfl, rfl, by omega, by simpa using HV.out, h1⟩
          case round =>
            clear h1 hO HV
            obtain ⟨t, A, c, O, ht, rfl, rfl, hO, hv, h⟩ := hrel
            have HI := Lib.hid ht
            have HV := Lib.hid hv
            have htl : t ≤ V.length := by omega
            clear ht hv
            by_cases hlt' : t < V.length
            · obtain ⟨x, hx⟩ : ∃ x, V[t]? = some x := ⟨V[t], List.getElem?_eq_getElem hlt'⟩
              have hv := HV.out
              rw [inn_drop hx] at hv
              obtain ⟨oq, hq, _⟩ := h.row 2 rfl
              obtain ⟨g, off, rfl, _, _, hcell, _⟩ := hq.at_ (i := t) (by omega)
              have y0 := hcell t hlt'
              simp [hx] at y0
              have HD := Lib.hid hv
              clear hv hq hcell hx HV
              rcases (by omega : (fr ≤ x ∧ x < te) ∨ ¬ fr ≤ x ∨ (fr ≤ x ∧ ¬ x < te)) with ⟨e1, e2⟩ | e1 | ⟨e1, e2⟩
              · have g1 : decide (fr ≤ x) = true := by simpa using e1
                have g2 : decide (x < te) = true := by simpa using e2
                have hv := HD.out
                rw [if_pos ⟨e1, e2⟩] at hv
                have HV := Lib.hid hv
                clear hv HD
                go_wp2_with (at_builtin; refine wpList_append_sep rfl _ _ 53 rfl 3 ii (.int .i64 0) 8 Tryz.underlying53 hi hz hs hby rfl A O.length c (O.map (Value.int .i64)) rfl wr.heap.size (.int .i64 x) rfl (h.alloc _) 1 rfl ?c1 rfl ?c2 ?c3 ?_)
                case c1 => simp
                case c2 => omega
                case c3 => omega
                intro A' c' w8 h8
                have he : (O ++ [x]).length = O.length + 1 := by simp
                have HL := Lib.hid he
                clear he h
                go_wp2_with fail
                go_roundg (gk - 1)
                case measure => have := HI.out; omega
                case rel =>
                  refine ⟨t + 1, A', c', O ++ [x], by have := HI.out; omega, by go_num, by rw [HL.out], by rw [HL.out]; omega, by have := HV.out; simpa using this, ?_⟩
                  rw [HL.out, List.map_append]
                  exact h8
              · have g1 : decide (fr ≤ x) = false := by simpa using e1
                have hv := HD.out
                rw [if_neg (fun h => e1 h.1)] at hv
                have HV := Lib.hid hv
                clear hv HD
                go_wp2_with fail
                go_roundg (gk - 1)
                case measure => have := HI.out; omega
                case rel => exact ⟨t + 1, A, c, O, by have := HI.out; omega, by go_num, rfl, by omega, by have := HV.out; simpa using this, h⟩
              · have g1 : decide (fr ≤ x) = true := by simpa using e1
                have g2 : decide (x < te) = false := by simpa using e2
                have hv := HD.out
                rw [if_neg (fun h => e2 h.2)] at hv
                have HV := Lib.hid hv
                clear hv HD
                go_wp2_with fail
                go_roundg (gk - 1)
                case measure => have := HI.out; omega
                case rel => exact ⟨t + 1, A, c, O, by have := HI.out; omega, by go_num, rfl, by omega, by have := HV.out; simpa using this, h⟩
            · have hv := HV.out
              rw [List.drop_of_length_le (by omega)] at hv
              have HD := Lib.hid hv
              have h2 := h.first (l := [_, _])
              clear hv HV h
              go_wp2_with fail
              go_roundg (gz - 1)
              case measure => have := HJ.out; omega
              case rel => exact ⟨j + 1, A, c, O, by have := HJ.out; omega, by go_num, rfl, by omega, by have := HD.out; simpa [inn] using this, h2⟩
    · have hv := HV.out
      rw [List.drop_of_length_le (by simpa using Nat.le_of_not_lt hlt)] at hv
      have HD := Lib.hid hv
      have H2 := Lib.hid h
      clear hv HV h
      go_wp2_with fail
      go_ret
      have : O = T := by rw [← HD.out]; simp [stL]
      subst this
      exact ⟨A, c, rfl, H2.out⟩
end
end Go.Proofs.YtihmkkjmnbehbaaGreat.Ma
