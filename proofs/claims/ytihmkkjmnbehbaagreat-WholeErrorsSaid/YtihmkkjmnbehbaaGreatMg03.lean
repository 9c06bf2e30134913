/- Texts of the whole heap, joined: MatC MatD SepStep. No condition beside those that each lemma names. -/
import Derived.Test.YtihmkkjmnbehbaaGreatMg02
import Derived.Test.YtihmkkjmnbehbaaGreatMg01
import Derived.Deep.DeepCutAuto
import Derived.Deep.CutBlock
import Derived.Deep.RegionHeld3
import Derived.Deep.RegionWith
/- Contracts of package mature: what begins at a place. No condition. -/
set_option linter.unusedVariables false
set_option linter.unusedSimpArgs false
namespace Go.Proofs.YtihmkkjmnbehbaaGreat.Ma
open Go.RowKit Go.Proofs.YtihmkkjmnbehbaaGreat.W Go.Proofs.YtihmkkjmnbehbaaGreat.Cl

/-- The page and the cell that begin at a place, i: the page's number, r: what is left of the place. -/
def atP (i : Nat) (p : Pg) (r : Int) : Option (Nat × Nat) :=
  if p.kind = 2 ∧ r = 0 then some (i, 0)
  else if p.kind = 1 ∧ r % p.size = 0 ∧ p.used[(r / p.size).toNat]? = some true then some (i, (r / p.size).toNat)
  else none
def atO (f n : Int) (l : List Pg) (x : Int) : Option (Nat × Nat) :=
  if x < f then none else
  match l[((x - f) / n).toNat]? with
  | none => none
  | some p => atP ((x - f) / n).toNat p ((x - f) % n)
def at1 : Option (Nat × Nat) → Int | some x => x.1 | none => 0
def at2 : Option (Nat × Nat) → Int | some x => x.2 | none => 0
section
variable {W w : World} {oo : Nat → Prop} {b L : Nat} {f n : Int} {lg : List (Pg × Nat)}
set_option maxRecDepth 20000 in
set_option maxHeartbeats 2000000 in
theorem at_in (x : Int) (h : SepO W oo w (mparts b L f n lg)) (m : MW f n lg) (hx : -9223372036854775808 ≤ x ∧ x ≤ 9223372036854775807) :
    Calls Tryz.prog 44 #[pt b, .int .i64 x] w fun e w' => e = .returned (.tuple #[.int .i64 (at1 (atO f n (lg.map (·.1)) x)), .int .i64 (at2 (atO f n (lg.map (·.1)) x)), .bool (atO f n (lg.map (·.1)) x).isSome]) ∧ SepO W oo w' (mparts b L f n lg) := by
  obtain ⟨hx0, hx1⟩ := hx
  have c0 := (m_blk h).cell 0
  have c1 := (m_blk h).cell 1
  have c2 := (m_blk h).cell 2
  simp at c0 c1 c2
  have f0 := m.f0
  have f1 := m.f1
  have n0 := m.n0
  have n1 := m.n1
  have hl := m.len
  by_cases hxf : x < f
  · rw [show atO f n (lg.map (·.1)) x = none from if_pos hxf]
    clear m
    have HH := Lib.hid h
    clear h
    go_enter Tryz.func44, Tryz.ntmps44
    go_wp2_with fail
    refine bodyPost_ret (v := .tuple #[.int .i64 0, .int .i64 0, .bool false]) (by simp [results, Tryz.results44, go_sem]) rfl ⟨rfl, HH.out⟩
  · have d1 : decide (x < f) = false := by simpa using hxf
    obtain ⟨y, hy⟩ : ∃ y, x - f = y := ⟨_, rfl⟩
    have y0 : 0 ≤ y := by omega
    have y1 : y ≤ 9223372036854775807 := by omega
    have s0 := IntWalk.i64_in y (by omega)
    have s1 := IntWalk.i64_quo y n (by omega)
    have s2 := IntWalk.rem_in y n (by omega)
    have q0 := Int.ediv_nonneg y0 (by omega : 0 ≤ n)
    have q1 := Int.ediv_le_self n y0
    have r0 := Int.emod_nonneg y (by omega : n ≠ 0)
    have r1 := Int.emod_lt_of_pos y (by omega : 0 < n)
    have s3 := IntWalk.i64_in (y % n) (by omega)
    have z0 : (n == 0) = false := by simp; omega
    have z1 : ¬ n = 0 := by omega
    have hat : atO f n (lg.map (·.1)) x = match (lg.map (·.1))[(y / n).toNat]? with | none => none | some p => atP (y / n).toNat p (y % n) := by
      unfold atO; rw [if_neg hxf, hy]
    rw [hat]
    clear hat
    obtain ⟨r, hr⟩ : ∃ r, y % n = r := ⟨_, rfl⟩
    obtain ⟨i, hi⟩ : ∃ i : Nat, y / n = (i : Int) := ⟨(y / n).toNat, by omega⟩
    rw [hr] at s2 s3 r0 r1 ⊢
    rw [hi] at s1 ⊢
    rw [Int.toNat_natCast]
    by_cases hil : i < lg.length
    · obtain ⟨⟨⟨kd, sz, us, pe⟩, g⟩, hp⟩ : ∃ p, lg[i]? = some p := ⟨lg[i], List.getElem?_eq_getElem hil⟩
      have hpp : (lg.map (·.1))[i]? = some ⟨kd, sz, us, pe⟩ := by rw [List.getElem?_map, hp]; rfl
      rw [hpp]
      simp only []
      have hok := m.page _ (List.mem_of_getElem? hp)
      have hul := used_le hok n1 n0
      simp only [Pg.ok] at hok hul
      have d2 : decide ((lg.length : Int) ≤ (i : Int)) = false := by simp; omega
      have d3 : decide (lg.length ≤ i) = false := by simp; omega
      have HH := Lib.hid h
      have HL := Lib.hid h
      have HP := Lib.hid hp
      have HY := Lib.hid hy
      rw [← HY.out] at s0 s1 s2
      clear hpp m hr hi q0 q1 hy h hp
      by_cases hk1 : kd = 1
      · subst hk1
        obtain ⟨k0, k1, k2⟩ : 1 ≤ sz ∧ sz ≤ n ∧ (us.length : Int) = n / sz := by
          rcases hok with ⟨_, h1, h2, h3⟩ | ⟨h1, _⟩
          · exact ⟨h1, h2, h3⟩
          · exact absurd rfl h1
        have hne' : us ≠ [] := by
          intro he
          rw [he] at k2
          have h1 := (Int.le_ediv_iff_mul_le (a := 1) (b := n) (by omega : 0 < sz)).2 (by omega)
          simp at k2
          omega
        have hne : us.isEmpty = false := by cases us <;> simp at hne' ⊢
        have HK := Lib.hid k2
        clear hok k2
        have t0 := IntWalk.rem_in r sz r0
        have t1 := Int.emod_nonneg r (by omega : sz ≠ 0)
        have t2 := Int.emod_lt_of_pos r (by omega : 0 < sz)
        have t3 := IntWalk.i64_in (r % sz) (by omega)
        have t4 := IntWalk.i64_quo r sz (by omega)
        have t5 := Int.ediv_nonneg r0 (by omega : 0 ≤ sz)
        have t6 := Int.ediv_le_self sz r0
        have t7 : (sz == 0) = false := by simp; omega
        have t8 : ¬ sz = 0 := by omega
        obtain ⟨q, hq⟩ : ∃ q : Nat, r / sz = (q : Int) := ⟨(r / sz).toNat, by omega⟩
        have hat : atP i ⟨1, sz, us, pe⟩ r = if r % sz = 0 ∧ us[q]? = some true then some (i, q) else none := by
          unfold atP
          simp only [hq, Int.toNat_natCast]
          rw [if_neg (by simp)]
          simp
        rw [hat]
        clear hat
        rw [hq] at t4 t5 t6
        obtain ⟨rs, hrs⟩ : ∃ rs, r % sz = rs := ⟨_, rfl⟩
        rw [hrs] at t0 t1 t2 t3 ⊢
        clear hq hrs
        by_cases hr0 : rs = 0
        · subst hr0
          by_cases hql : q < us.length
          · have e1 : decide ((q : Int) < (us.length : Int)) = true := by simp; omega
            have e2 : decide (q < us.length) = true := by simp; omega
            cases hx : us[q]?.getD false
            · have hv : ¬ us[q]? = some true := by intro h; rw [h] at hx; cases hx
              rw [if_neg (fun h => hv h.2)]
              clear hv
              have HX := Lib.hid hx
              clear hx
              go_enter Tryz.func44, Tryz.ntmps44
              go_wp2_with fail
              go_quiet (fail)
              have h2 := HH.out.drewN nq
              clear c0 c1 c2
              have c2 : (w.drewN nq).cell? ⟨b, 2, none⟩ = some (.slice (some ⟨L, 0, none⟩) lg.length lg.length) := (m_blk h2).cell 2
              obtain ⟨p0, p1, p2, p3⟩ := m_page h2 HP.out
              simp only [usl, hne, Bool.false_eq_true, if_false] at p0 p1 p2 p3
              generalize w.drewN nq = w2 at *
              clear HH
              have HH := Lib.hid h2
              clear h2
              go_upto_region 31 with fail
              have h3 := HH.out.new_blk 92 #[.int .i64 1, .int .i64 sz, .slice (some ⟨g, 0, none⟩) us.length us.length, .bool pe]
              obtain ⟨X, hX⟩ : ∃ X, w2.heap.size = X := ⟨_, rfl⟩
              rw [hX] at h3
              rw [hX]
              generalize w2.alloc (.cells #[.int .i64 1, .int .i64 sz, .slice (some ⟨g, 0, none⟩) us.length us.length, .bool pe] 92) = w3 at h3 ⊢
              have hlast : (mparts b L f n lg ++ [blkP X 92 #[.int .i64 1, .int .i64 sz, .slice (some ⟨g, 0, none⟩) us.length us.length, .bool pe]])[lg.length + 2]? = some (blkP X 92 #[.int .i64 1, .int .i64 sz, .slice (some ⟨g, 0, none⟩) us.length us.length, .bool pe]) := by
                rw [List.getElem?_append_right (by simp [mparts])]; simp [mparts]
              have u0 : w3.cell? ⟨X, 0, none⟩ = some (.int .i64 1) := (h3.blk _ hlast).cell 0
              have u1 : w3.cell? ⟨X, 1, none⟩ = some (.int .i64 sz) := (h3.blk _ hlast).cell 1
              have u2 : w3.cell? ⟨X, 2, none⟩ = some (.slice (some ⟨g, 0, none⟩) us.length us.length) := (h3.blk _ hlast).cell 2
              clear hX p0 p1 p2 p3 c2 HH hlast
              have hg := (h3.blk (i + 2) (by rw [List.getElem?_append_left (by simp [mparts]; omega)]; exact m_used HL.out HP.out (by simpa using hne'))).cell q
              rw [bools_get hql, HX.out] at hg
              have HE := Lib.hid (SepO.first h3)
              clear h3
              go_quiet (fail)
              go_wp2_with fail
              refine bodyPost_ret (v := .tuple #[.int .i64 0, .int .i64 0, .bool false]) (by simp [results, Tryz.results44, go_sem]) rfl ⟨rfl, ?_⟩
              exact HE.out.drewN _
            · have hv : us[q]? = some true := by rw [List.getElem?_eq_getElem hql] at hx ⊢; simpa using hx
              rw [if_pos ⟨rfl, hv⟩]
              clear hv
              have HX := Lib.hid hx
              clear hx
              go_enter Tryz.func44, Tryz.ntmps44
              go_wp2_with fail
              go_quiet (fail)
              have h2 := HH.out.drewN nq
              clear c0 c1 c2
              have c2 : (w.drewN nq).cell? ⟨b, 2, none⟩ = some (.slice (some ⟨L, 0, none⟩) lg.length lg.length) := (m_blk h2).cell 2
              obtain ⟨p0, p1, p2, p3⟩ := m_page h2 HP.out
              simp only [usl, hne, Bool.false_eq_true, if_false] at p0 p1 p2 p3
              generalize w.drewN nq = w2 at *
              clear HH
              have HH := Lib.hid h2
              clear h2
              go_upto_region 31 with fail
              have h3 := HH.out.new_blk 92 #[.int .i64 1, .int .i64 sz, .slice (some ⟨g, 0, none⟩) us.length us.length, .bool pe]
              obtain ⟨X, hX⟩ : ∃ X, w2.heap.size = X := ⟨_, rfl⟩
              rw [hX] at h3
              rw [hX]
              generalize w2.alloc (.cells #[.int .i64 1, .int .i64 sz, .slice (some ⟨g, 0, none⟩) us.length us.length, .bool pe] 92) = w3 at h3 ⊢
              have hlast : (mparts b L f n lg ++ [blkP X 92 #[.int .i64 1, .int .i64 sz, .slice (some ⟨g, 0, none⟩) us.length us.length, .bool pe]])[lg.length + 2]? = some (blkP X 92 #[.int .i64 1, .int .i64 sz, .slice (some ⟨g, 0, none⟩) us.length us.length, .bool pe]) := by
                rw [List.getElem?_append_right (by simp [mparts])]; simp [mparts]
              have u0 : w3.cell? ⟨X, 0, none⟩ = some (.int .i64 1) := (h3.blk _ hlast).cell 0
              have u1 : w3.cell? ⟨X, 1, none⟩ = some (.int .i64 sz) := (h3.blk _ hlast).cell 1
              have u2 : w3.cell? ⟨X, 2, none⟩ = some (.slice (some ⟨g, 0, none⟩) us.length us.length) := (h3.blk _ hlast).cell 2
              clear hX p0 p1 p2 p3 c2 HH hlast
              have hg := (h3.blk (i + 2) (by rw [List.getElem?_append_left (by simp [mparts]; omega)]; exact m_used HL.out HP.out (by simpa using hne'))).cell q
              rw [bools_get hql, HX.out] at hg
              have HE := Lib.hid (SepO.first h3)
              clear h3
              go_quiet (fail)
              go_wp2_with fail
              go_quiet (fail)
              go_wp2_with fail
              refine bodyPost_ret (v := .tuple #[.int .i64 i, .int .i64 q, .bool true]) (by simp [results, Tryz.results44, go_sem]) rfl ⟨rfl, ?_⟩
              exact (HE.out.drewN _).drewN _
          · have e1 : decide ((q : Int) < (us.length : Int)) = false := by simp; omega
            have e2 : decide (q < us.length) = false := by simp; omega
            rw [if_neg (fun h => by rw [List.getElem?_eq_none (by omega)] at h; exact absurd h.2 (by simp))]
            go_enter Tryz.func44, Tryz.ntmps44
            go_wp2_with fail
            go_quiet (fail)
            have h2 := HH.out.drewN nq
            clear c0 c1 c2
            have c2 : (w.drewN nq).cell? ⟨b, 2, none⟩ = some (.slice (some ⟨L, 0, none⟩) lg.length lg.length) := (m_blk h2).cell 2
            obtain ⟨p0, p1, p2, p3⟩ := m_page h2 HP.out
            simp only [usl, hne, Bool.false_eq_true, if_false] at p0 p1 p2 p3
            generalize w.drewN nq = w2 at *
            clear HH
            have HH := Lib.hid h2
            clear h2
            go_upto_region 31 with fail
            have h3 := HH.out.new_blk 92 #[.int .i64 1, .int .i64 sz, .slice (some ⟨g, 0, none⟩) us.length us.length, .bool pe]
            obtain ⟨X, hX⟩ : ∃ X, w2.heap.size = X := ⟨_, rfl⟩
            rw [hX] at h3
            rw [hX]
            generalize w2.alloc (.cells #[.int .i64 1, .int .i64 sz, .slice (some ⟨g, 0, none⟩) us.length us.length, .bool pe] 92) = w3 at h3 ⊢
            have hlast : (mparts b L f n lg ++ [blkP X 92 #[.int .i64 1, .int .i64 sz, .slice (some ⟨g, 0, none⟩) us.length us.length, .bool pe]])[lg.length + 2]? = some (blkP X 92 #[.int .i64 1, .int .i64 sz, .slice (some ⟨g, 0, none⟩) us.length us.length, .bool pe]) := by
              rw [List.getElem?_append_right (by simp [mparts])]; simp [mparts]
            have u0 : w3.cell? ⟨X, 0, none⟩ = some (.int .i64 1) := (h3.blk _ hlast).cell 0
            have u1 : w3.cell? ⟨X, 1, none⟩ = some (.int .i64 sz) := (h3.blk _ hlast).cell 1
            have u2 : w3.cell? ⟨X, 2, none⟩ = some (.slice (some ⟨g, 0, none⟩) us.length us.length) := (h3.blk _ hlast).cell 2
            clear hX p0 p1 p2 p3 c2 HH hlast
            have HE := Lib.hid (SepO.first h3)
            clear h3
            go_quiet (fail)
            go_wp2_with fail
            refine bodyPost_ret (v := .tuple #[.int .i64 0, .int .i64 0, .bool false]) (by simp [results, Tryz.results44, go_sem]) rfl ⟨rfl, ?_⟩
            exact HE.out.drewN _
        · rw [if_neg (fun h => hr0 h.1)]
          have e0 : (rs == 0) = false := by simpa using hr0
          go_enter Tryz.func44, Tryz.ntmps44
          go_wp2_with fail
          go_quiet (fail)
          have h2 := HH.out.drewN nq
          clear c0 c1 c2
          have c2 : (w.drewN nq).cell? ⟨b, 2, none⟩ = some (.slice (some ⟨L, 0, none⟩) lg.length lg.length) := (m_blk h2).cell 2
          obtain ⟨p0, p1, p2, p3⟩ := m_page h2 HP.out
          simp only [usl, hne, Bool.false_eq_true, if_false] at p0 p1 p2 p3
          generalize w.drewN nq = w2 at *
          clear HH
          have HH := Lib.hid h2
          clear h2
          go_upto_region 31 with fail
          have h3 := HH.out.new_blk 92 #[.int .i64 1, .int .i64 sz, .slice (some ⟨g, 0, none⟩) us.length us.length, .bool pe]
          obtain ⟨X, hX⟩ : ∃ X, w2.heap.size = X := ⟨_, rfl⟩
          rw [hX] at h3
          rw [hX]
          generalize w2.alloc (.cells #[.int .i64 1, .int .i64 sz, .slice (some ⟨g, 0, none⟩) us.length us.length, .bool pe] 92) = w3 at h3 ⊢
          have hlast : (mparts b L f n lg ++ [blkP X 92 #[.int .i64 1, .int .i64 sz, .slice (some ⟨g, 0, none⟩) us.length us.length, .bool pe]])[lg.length + 2]? = some (blkP X 92 #[.int .i64 1, .int .i64 sz, .slice (some ⟨g, 0, none⟩) us.length us.length, .bool pe]) := by
            rw [List.getElem?_append_right (by simp [mparts])]; simp [mparts]
          have u0 : w3.cell? ⟨X, 0, none⟩ = some (.int .i64 1) := (h3.blk _ hlast).cell 0
          have u1 : w3.cell? ⟨X, 1, none⟩ = some (.int .i64 sz) := (h3.blk _ hlast).cell 1
          have u2 : w3.cell? ⟨X, 2, none⟩ = some (.slice (some ⟨g, 0, none⟩) us.length us.length) := (h3.blk _ hlast).cell 2
          clear hX p0 p1 p2 p3 c2 HH hlast
          have HE := Lib.hid (SepO.first h3)
          clear h3
          go_quiet (fail)
          go_wp2_with fail
          refine bodyPost_ret (v := .tuple #[.int .i64 0, .int .i64 0, .bool false]) (by simp [results, Tryz.results44, go_sem]) rfl ⟨rfl, ?_⟩
          exact HE.out.drewN _
      · have hu : us = [] := by
          rcases hok with ⟨h1, _⟩ | ⟨_, h1, _⟩
          · exact absurd h1 hk1
          · exact h1
        subst hu
        clear hok hul
        by_cases hk2 : kd = 2
        · subst hk2
          by_cases hr0 : r = 0
          · rw [show atP i ⟨2, sz, [], pe⟩ r = some (i, 0) from if_pos ⟨rfl, hr0⟩]
            subst hr0
            clear hk1
            go_enter Tryz.func44, Tryz.ntmps44
            go_wp2_with fail
            go_quiet (fail)
            have h2 := HH.out.drewN nq
            clear c0 c1 c2
            have c2 : (w.drewN nq).cell? ⟨b, 2, none⟩ = some (.slice (some ⟨L, 0, none⟩) lg.length lg.length) := (m_blk h2).cell 2
            obtain ⟨p0, p1, p2, p3⟩ := m_page h2 HP.out
            simp only [usl, List.isEmpty_nil, if_true] at p0 p1 p2 p3
            generalize w.drewN nq = w2 at *
            clear HH
            have HH := Lib.hid h2
            clear h2
            go_wp2_with fail
            refine bodyPost_ret (v := .tuple #[.int .i64 i, .int .i64 0, .bool true]) (by simp [results, Tryz.results44, go_sem]) rfl ⟨rfl, ?_⟩
            exact HH.out.alloc _
          · rw [show atP i ⟨2, sz, [], pe⟩ r = none from by unfold atP; rw [if_neg (fun h => hr0 h.2), if_neg (fun h => hk1 h.1)]]
            have e0 : (r == 0) = false := by simpa using hr0
            clear hk1
            go_enter Tryz.func44, Tryz.ntmps44
            go_wp2_with fail
            go_quiet (fail)
            have h2 := HH.out.drewN nq
            clear c0 c1 c2
            have c2 : (w.drewN nq).cell? ⟨b, 2, none⟩ = some (.slice (some ⟨L, 0, none⟩) lg.length lg.length) := (m_blk h2).cell 2
            obtain ⟨p0, p1, p2, p3⟩ := m_page h2 HP.out
            simp only [usl, List.isEmpty_nil, if_true] at p0 p1 p2 p3
            generalize w.drewN nq = w2 at *
            clear HH
            have HH := Lib.hid h2
            clear h2
            go_upto_region 31 with fail
            have h3 := HH.out.new_blk 92 #[.int .i64 2, .int .i64 sz, .slice none 0 0, .bool pe]
            obtain ⟨X, hX⟩ : ∃ X, w2.heap.size = X := ⟨_, rfl⟩
            rw [hX] at h3
            rw [hX]
            generalize w2.alloc (.cells #[.int .i64 2, .int .i64 sz, .slice none 0 0, .bool pe] 92) = w3 at h3 ⊢
            have hlast : (mparts b L f n lg ++ [blkP X 92 #[.int .i64 2, .int .i64 sz, .slice none 0 0, .bool pe]])[lg.length + 2]? = some (blkP X 92 #[.int .i64 2, .int .i64 sz, .slice none 0 0, .bool pe]) := by
              rw [List.getElem?_append_right (by simp [mparts])]; simp [mparts]
            have u0 : w3.cell? ⟨X, 0, none⟩ = some (.int .i64 2) := (h3.blk _ hlast).cell 0
            have u1 : w3.cell? ⟨X, 1, none⟩ = some (.int .i64 sz) := (h3.blk _ hlast).cell 1
            have u2 : w3.cell? ⟨X, 2, none⟩ = some (.slice none 0 0) := (h3.blk _ hlast).cell 2
            clear hX p0 p1 p2 p3 c2 HH hlast
            have HE := Lib.hid (SepO.first h3)
            clear h3
            go_quiet (fail)
            go_wp2_with fail
            refine bodyPost_ret (v := .tuple #[.int .i64 0, .int .i64 0, .bool false]) (by simp [results, Tryz.results44, go_sem]) rfl ⟨rfl, ?_⟩
            exact HE.out.drewN _
        · rw [show atP i ⟨kd, sz, [], pe⟩ r = none from by unfold atP; rw [if_neg (fun h => hk2 h.1), if_neg (fun h => hk1 h.1)]]
          have e0 : (kd == 1) = false := by simpa using hk1
          have e1 : (kd == 2) = false := by simpa using hk2
          go_enter Tryz.func44, Tryz.ntmps44
          go_wp2_with fail
          go_quiet (fail)
          have h2 := HH.out.drewN nq
          clear c0 c1 c2
          have c2 : (w.drewN nq).cell? ⟨b, 2, none⟩ = some (.slice (some ⟨L, 0, none⟩) lg.length lg.length) := (m_blk h2).cell 2
          obtain ⟨p0, p1, p2, p3⟩ := m_page h2 HP.out
          simp only [usl, List.isEmpty_nil, if_true] at p0 p1 p2 p3
          generalize w.drewN nq = w2 at *
          clear HH
          have HH := Lib.hid h2
          clear h2
          go_upto_region 31 with fail
          have h3 := HH.out.new_blk 92 #[.int .i64 kd, .int .i64 sz, .slice none 0 0, .bool pe]
          obtain ⟨X, hX⟩ : ∃ X, w2.heap.size = X := ⟨_, rfl⟩
          rw [hX] at h3
          rw [hX]
          generalize w2.alloc (.cells #[.int .i64 kd, .int .i64 sz, .slice none 0 0, .bool pe] 92) = w3 at h3 ⊢
          have hlast : (mparts b L f n lg ++ [blkP X 92 #[.int .i64 kd, .int .i64 sz, .slice none 0 0, .bool pe]])[lg.length + 2]? = some (blkP X 92 #[.int .i64 kd, .int .i64 sz, .slice none 0 0, .bool pe]) := by
            rw [List.getElem?_append_right (by simp [mparts])]; simp [mparts]
          have u0 : w3.cell? ⟨X, 0, none⟩ = some (.int .i64 kd) := (h3.blk _ hlast).cell 0
          have u1 : w3.cell? ⟨X, 1, none⟩ = some (.int .i64 sz) := (h3.blk _ hlast).cell 1
          have u2 : w3.cell? ⟨X, 2, none⟩ = some (.slice none 0 0) := (h3.blk _ hlast).cell 2
          clear hX p0 p1 p2 p3 c2 HH hlast
          have HE := Lib.hid (SepO.first h3)
          clear h3
          go_quiet (fail)
          go_wp2_with fail
          refine bodyPost_ret (v := .tuple #[.int .i64 0, .int .i64 0, .bool false]) (by simp [results, Tryz.results44, go_sem]) rfl ⟨rfl, ?_⟩
          exact HE.out.drewN _
    · rw [List.getElem?_eq_none (by simpa using Nat.le_of_not_lt hil)]
      simp only []
      have d2 : decide ((lg.length : Int) ≤ (i : Int)) = true := by simp; omega
      have d3 : decide (lg.length ≤ i) = true := by simp; omega
      have HH := Lib.hid h
      have HY := Lib.hid hy
      clear m h hr hi q0 q1 hy
      rw [← HY.out] at s0 s1 s2
      go_enter Tryz.func44, Tryz.ntmps44
      go_wp2_with fail
      go_quiet (fail)
      go_wp2_with fail
      refine bodyPost_ret (v := .tuple #[.int .i64 0, .int .i64 0, .bool false]) (by simp [results, Tryz.results44, go_sem]) rfl ⟨rfl, HH.out.drewN _⟩
end
end Go.Proofs.YtihmkkjmnbehbaaGreat.Ma
/- Contracts of package mature: how large something is. No condition. -/
set_option linter.unusedVariables false
set_option linter.unusedSimpArgs false
namespace Go.Proofs.YtihmkkjmnbehbaaGreat.Ma
open Go.RowKit Go.Proofs.YtihmkkjmnbehbaaGreat.W Go.Proofs.YtihmkkjmnbehbaaGreat.Cl

/-- How large what begins somewhere is. -/
def szP (n : Int) (p : Pg) : Int := if p.kind = 2 then pgs n p.size * n else p.size
def szO (n : Int) (l : List Pg) (o : Option (Nat × Nat)) : Int := match o with | none => 0 | some y => match l[y.1]? with | none => 0 | some p => szP n p
theorem atP_some {i j k : Nat} {p : Pg} {r : Int} (h : atP i p r = some (j, k)) : j = i ∧ (p.kind = 2 ∧ k = 0 ∧ r = 0 ∨ p.kind = 1 ∧ r % p.size = 0 ∧ k = (r / p.size).toNat ∧ p.used[k]? = some true) := by
  unfold atP at h
  split at h
  · rename_i h1; cases h; exact ⟨rfl, .inl ⟨h1.1, rfl, h1.2⟩⟩
  · split at h
    · rename_i h1; cases h; exact ⟨rfl, .inr ⟨h1.1, h1.2.1, rfl, h1.2.2⟩⟩
    · cases h
theorem atO_some {f n x : Int} {l : List Pg} {j k : Nat} (h : atO f n l x = some (j, k)) : f ≤ x ∧ j = ((x - f) / n).toNat ∧ ∃ p, l[j]? = some p ∧ (p.kind = 2 ∧ k = 0 ∧ (x - f) % n = 0 ∨ p.kind = 1 ∧ ((x - f) % n) % p.size = 0 ∧ k = (((x - f) % n) / p.size).toNat ∧ p.used[k]? = some true) := by
  unfold atO at h
  split at h
  · cases h
  · rename_i hx
    cases hp : l[((x - f) / n).toNat]? with
    | none => rw [hp] at h; cases h
    | some p =>
      rw [hp] at h
      obtain ⟨rfl, h2⟩ := atP_some h
      exact ⟨by omega, rfl, p, hp, h2⟩
section
variable {W w : World} {oo : Nat → Prop} {b L : Nat} {f n : Int} {lg : List (Pg × Nat)}
theorem MW.big_b (m : MW f n lg) {i : Nat} {p : Pg × Nat} (hp : lg[i]? = some p) (hk : p.1.kind = 2) : 1 ≤ p.1.size ∧ p.1.size ≤ 9223372036854775807 ∧ 1 ≤ pgs n p.1.size ∧ (i : Int) + pgs n p.1.size ≤ lg.length ∧ 0 ≤ pgs n p.1.size * n ∧ pgs n p.1.size * n ≤ 64 * 256 := by
  have hb := m.big i p hp hk
  have hl := m.len
  have n0 := m.n0
  have n1 := m.n1
  obtain ⟨s1, s2⟩ : 1 ≤ p.1.size ∧ p.1.size ≤ 9223372036854775807 := by
    rcases m.page p (List.mem_of_getElem? hp) with ⟨h, _⟩ | ⟨_, _, _, _, h⟩
    · omega
    · exact h hk
  have hg := pgs_b n0 s1
  refine ⟨s1, s2, hg.1, hb, Int.mul_nonneg (by omega) (by omega), ?_⟩
  have h1 := Int.mul_le_mul_of_nonneg_right (by omega : pgs n p.1.size ≤ 64) (by omega : 0 ≤ n)
  omega
set_option maxRecDepth 20000 in
set_option maxHeartbeats 1000000 in
theorem Size_in (x : Int) (h : SepO W oo w (mparts b L f n lg)) (m : MW f n lg) (hx : -9223372036854775808 ≤ x ∧ x ≤ 9223372036854775807) :
    Calls Tryz.prog 25 #[pt b, .int .i64 x] w fun e w' => e = .returned (.tuple #[.int .i64 (szO n (lg.map (·.1)) (atO f n (lg.map (·.1)) x)), .bool (atO f n (lg.map (·.1)) x).isSome]) ∧ SepO W oo w' (mparts b L f n lg) := by
  have hc := at_in x h m hx
  cases ho : atO f n (lg.map (·.1)) x with
  | none =>
    rw [ho] at hc
    have HC := Lib.hid hc
    clear hc ho m h
    go_enter Tryz.func25, Tryz.ntmps25
    go_wp2_with fail
    refine HC.out.mono ?_
    rintro e w1 ⟨rfl, h1⟩
    go_wp2_with fail
    go_ret2
    exact ⟨rfl, h1⟩
  | some y =>
    obtain ⟨i, k⟩ := y
    rw [ho] at hc
    obtain ⟨-, -, q, hq, hk⟩ := atO_some ho
    replace hc : Calls Tryz.prog 44 #[pt b, .int .i64 x] w fun e w' => e = .returned (.tuple #[.int .i64 i, .int .i64 k, .bool true]) ∧ SepO W oo w' (mparts b L f n lg) := hc
    rw [List.getElem?_map] at hq
    obtain ⟨p, hp, rfl⟩ := Option.map_eq_some_iff.1 hq
    have hil : i < lg.length := (List.getElem?_eq_some_iff.1 hp).1
    have hl := m.len
    have n1 := m.n1
    have n0 := m.n0
    have hsz : szO n (lg.map (·.1)) (some (i, k)) = szP n p.1 := by unfold szO; simp only [List.getElem?_map, hp, Option.map_some]
    rw [hsz]
    have HC := Lib.hid hc
    have HP := Lib.hid hp
    by_cases hk2 : p.1.kind = 2
    · obtain ⟨b1, b2, b3, b4, b5, b6⟩ := m.big_b hp hk2
      rw [show szP n p.1 = pgs n p.1.size * n from if_pos hk2]
      obtain ⟨g, hg⟩ : ∃ g, pgs n p.1.size = g := ⟨_, rfl⟩
      rw [hg] at b3 b4 b5 b6 ⊢
      obtain ⟨v, hv⟩ : ∃ v, g * n = v := ⟨_, rfl⟩
      rw [hv] at b5 b6 ⊢
      have e1 := IntWalk.i64_in v (by omega)
      have HG := Lib.hid hg
      have HV := Lib.hid hv
      clear hc ho m h hk hq hp hsz hg hv
      rw [← HV.out] at e1
      go_enter Tryz.func25, Tryz.ntmps25
      go_wp2_with fail
      refine HC.out.mono ?_
      rintro e w1 ⟨rfl, h1⟩
      have c1 : w1.cell? ⟨b, 1, none⟩ = some (.int .i64 n) := (m_blk h1).cell 1
      have c2 : w1.cell? ⟨b, 2, none⟩ = some (.slice (some ⟨L, 0, none⟩) lg.length lg.length) := (m_blk h1).cell 2
      obtain ⟨p0, p1, _, _⟩ := m_page h1 HP.out
      rw [hk2] at p0
      have HB : ∀ q, Calls Tryz.prog 45 #[.int .i64 n, .int .i64 p.1.size] (w1.drewN q) fun e w' => e = .returned (.int .i64 g) ∧ ∃ r, w' = (w1.drewN q).drewN r := fun q => by
        rw [← HG.out]; exact Pages_calls n p.1.size _ (by omega) (by omega)
      have HB' := Lib.hid HB
      have H1 := Lib.hid h1
      clear HB h1
      go_wp2_with fail
      go_quiet ((go_at_call 45; exact Calls.quiet_of (HB'.out _)))
      go_wp2_with fail
      go_ret2
      exact ⟨by rw [HV.out]; rfl, H1.out.drewN _⟩
    · rw [show szP n p.1 = p.1.size from if_neg hk2]
      have e1 : (p.1.kind == 2) = false := by simpa using hk2
      clear hc ho m h hk hq hp hsz
      go_enter Tryz.func25, Tryz.ntmps25
      go_wp2_with fail
      refine HC.out.mono ?_
      rintro e w1 ⟨rfl, h1⟩
      have c2 : w1.cell? ⟨b, 2, none⟩ = some (.slice (some ⟨L, 0, none⟩) lg.length lg.length) := (m_blk h1).cell 2
      obtain ⟨p0, p1, _, _⟩ := m_page h1 HP.out
      have H1 := Lib.hid h1
      clear h1
      go_wp2_with fail
      go_ret2
      exact ⟨rfl, H1.out⟩
end
end Go.Proofs.YtihmkkjmnbehbaaGreat.Ma
/- Append to a row that is a part, as one step of a region that draws its order. No condition. -/
set_option linter.unusedVariables false
set_option linter.unusedSimpArgs false
namespace Go.Proofs.YtihmkkjmnbehbaaGreat.W
open Go.RowKit
section
variable {W w : World} {oo : Nat → Prop} {l : List Pr}
theorem step_append_sep {G : Program} {ops : Array Oper} {o : Oper} {a : Act} {K : Act → World → Prop} {Q : Exit → Act → World → Prop} {E : Prop} (hgd : o.guard = none) (s x : Operand) (t : TypeId)
    (ho : o.op = .call { callee := .builtin .append, args := #[s, x], argTypes := #[t, t] })
    (e : TypeId) (i : TypeInfo) (z : Value) (bytes : Nat) (ht : G.underlying t = some (.slice e)) (hi : G.info? e = some i) (hz : i.zero = some z) (hs : i.size = 1) (hby : i.bytes = bytes) (hzc : z.cells.size = 1)
    (A : Option Addr) (n c : Nat) (xs : List Value) (hsv : a.eval s = .slice A n c) (B : Nat) (u : Value) (hxv : a.eval x = .slice (some ⟨B, 0, none⟩) 1 1)
    (h : SepO W oo w (l ++ [rowP e A n c xs])) (hcell : w.cell? ⟨B, 0, none⟩ = some u) (h1 : u.oneCell' = true)
    (h63 : n + 1 ≤ 9223372036854775807) (hbytes : (n + 1) * bytes ≤ 140737488355328)
    (hw : ∀ A' c' w', SepO W oo w' (l ++ [rowP e A' (n + 1) c' (xs ++ [u])]) → K (a.put o.dst (.slice A' (n + 1) c')) w') :
    if Region.wanted o (yielded ops a.tmps) = true then Oper.wp G o a w K Q else E := by
  rw [if_pos (by simp [Region.wanted, hgd])]
  obtain ⟨ok, hq, _, hup⟩ := h.open_ l.length at_last
  obtain ⟨A', c', w', hr, h2, h3⟩ := run_append_q (P := G) t o.type e i z bytes ht hi hz hs hby hzc hq B u hcell h1 h63 hbytes
  unfold Oper.wp execOp
  simp only [ho, resolve, invoke, builtin, Sem.run_bind, Sem.run_pure, Result.andThen_ok, List.map_toArray, List.map_cons, List.map_nil, hsv, hxv, hr]
  have h9 := hup w' (rowP e A' (n + 1) c' (xs ++ [u])) h2 h3
  rw [List.set_append_right _ _ (Nat.le_refl _), Nat.sub_self, List.set_cons_zero] at h9
  exact hw _ _ _ h9
end
end Go.Proofs.YtihmkkjmnbehbaaGreat.W
