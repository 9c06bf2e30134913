/- Contracts of package graph: copy, get, set, make. No condition. -/
import Derived.Test.YtoldhaomacnigaaGrA
set_option linter.unusedVariables false
set_option linter.unusedSimpArgs false
namespace Go.Proofs.Ytoldhaomacnigaa.Gr
open Go.RowKit Go.Proofs.Ytoldhaomacnigaa.W
section
variable {W w : World} {oo : Nat → Prop} {g H : Nat} {s : GS} {N : NL}
theorem cell_h (h : SepO W oo w (gparts g H s.largest s.hs N)) {x : Int} (hx : has s x = true) : w.cell? ⟨H, x.toNat, none⟩ = some (pv N (held s x)) := by
  obtain ⟨x0, x1⟩ := (has_iff s x).1 hx
  rw [(g_hs h).cell, pvs_get (by omega)]; rfl
/-- The graph behind a step, in memory. -/
def GOut (W : World) (oo : Nat → Prop) (g H : Nat) (s : GS) (w : World) : Prop := ∃ N, SepO W oo w (gparts g H s.largest s.hs N) ∧ N.map (·.1) = s.nodes
theorem GOut.drew (h : GOut W oo g H s w) : GOut W oo g H s w.drew := by
  obtain ⟨N, h1, h2⟩ := h
  exact ⟨N, h1.drew, h2⟩
theorem GOut.drewN (h : GOut W oo g H s w) (n : Nat) : GOut W oo g H s (w.drewN n) := by
  obtain ⟨N, h1, h2⟩ := h
  exact ⟨N, h1.drewN n, h2⟩
theorem copy_in (x y : Int) (h : SepO W oo w (gparts g H s.largest s.hs N)) (hs : s.ok) (hN : N.map (·.1) = s.nodes) :
    Calls Try.prog 24 #[pt g, .int .i64 x, .int .i64 y] w fun e w' => e = .returned (.int .i64 (gcopy s x y).1) ∧ GOut W oo g H (gcopy s x y).2 w' := by
  obtain ⟨⟨R1, R2⟩, hR⟩ : ∃ R, gcopy s x y = R := ⟨_, rfl⟩
  rw [hR]
  unfold gcopy at hR
  have c0 := (g_blk h).cell 0
  simp at c0
  have hl := hs.hlen
  have hx := has_in x h hs
  have hy := has_in y h hs
  cases ey : has s y
  · rw [ey] at hy
    have hE : R1 = 3 ∧ R2 = s := by rw [ey] at hR; simp at hR; exact ⟨hR.1.symm, hR.2.symm⟩
    obtain ⟨rfl, rfl⟩ := hE
    have HY := Lib.hid hy
    have hq : GOut W oo g H R2 w := ⟨N, h, hN⟩
    have HQ := Lib.hid hq
    clear hR hx hy ey h hN hq
    go_enter Try.func24, Try.ntmps24
    go_wp2_with fail
    refine HY.out.mono ?_
    rintro e w1 ⟨rfl, rfl⟩
    go_wp2_with fail
    go_ret
    exact ⟨rfl, HQ.out⟩
  · cases ex : has s x
    · rw [ey] at hy
      rw [ex] at hx
      have hE : R1 = 3 ∧ R2 = s := by rw [ey, ex] at hR; simp at hR; exact ⟨hR.1.symm, hR.2.symm⟩
      obtain ⟨rfl, rfl⟩ := hE
      have HY := Lib.hid hy
      have HX := Lib.hid hx
      have hq : GOut W oo g H R2 w := ⟨N, h, hN⟩
      have HQ := Lib.hid hq
      clear hR hx hy ey ex h hN hq
      go_enter Try.func24, Try.ntmps24
      go_wp2_with fail
      refine HY.out.mono ?_
      rintro e w1 ⟨rfl, rfl⟩
      go_wp2_with fail
      refine HX.out.mono ?_
      rintro e w1 ⟨rfl, rfl⟩
      go_wp2_with fail
      go_ret
      exact ⟨rfl, HQ.out⟩
    · rw [ey] at hy
      rw [ex] at hx
      have hE : R1 = 0 ∧ R2 = { s with hs := s.hs.set x.toNat (held s y) } := by rw [ey, ex] at hR; simp at hR; exact ⟨hR.1.symm, hR.2.symm⟩
      obtain ⟨rfl, hE2⟩ := hE
      have c1 := cell_h h ex
      have c2 := cell_h h ey
      obtain ⟨x0, x1⟩ := (has_iff s x).1 ex
      obtain ⟨y0, y1⟩ := (has_iff s y).1 ey
      have f1 := (g_hs h).frozen x.toNat
      have hq : GOut W oo g H R2 (w.setCell ⟨H, x.toNat, none⟩ (pv N (held s y))) := by
        rw [hE2]
        exact ⟨N, g_set_h h _ _, hN⟩
      have HY := Lib.hid hy
      have HX := Lib.hid hx
      have HQ := Lib.hid hq
      obtain ⟨v, hv⟩ := pv_ptr N (held s y)
      rw [hv] at c2 HQ
      clear hv
      obtain ⟨v', hv'⟩ := pv_ptr N (held s x)
      rw [hv'] at c1
      clear hv'
      generalize s.hs.length = n at *
      clear hR hx hy ey ex h hN hq hE2 hs
      go_enter Try.func24, Try.ntmps24
      go_wp2_with fail
      refine HY.out.mono ?_
      rintro e w1 ⟨rfl, rfl⟩
      go_wp2_with fail
      refine HX.out.mono ?_
      rintro e w1 ⟨rfl, rfl⟩
      go_wp2_with fail
      go_region
      go_wp2_with fail
      go_ret
      exact ⟨rfl, HQ.out.drew⟩
set_option maxHeartbeats 1000000 in
theorem get_in (to x n : Int) (h : SepO W oo w (gparts g H s.largest s.hs N)) (hs : s.ok) (hN : N.map (·.1) = s.nodes) :
    Calls Try.prog 20 #[pt g, .int .i64 to, .int .i64 x, .int .i64 n] w fun e w' => e = .returned (.int .i64 (gget s to x n).1) ∧ GOut W oo g H (gget s to x n).2 w' := by
  obtain ⟨⟨R1, R2⟩, hR⟩ : ∃ R, gget s to x n = R := ⟨_, rfl⟩
  rw [hR]
  simp only []
  unfold gget at hR
  have c0 := (g_blk h).cell 0
  simp at c0
  have hl := hs.hlen
  have ho := object_in x h hs hN
  have hh := has_in to h hs
  have bad : ∀ E : Int, E ≠ 0 → wrong s x = E → Calls Try.prog 20 #[pt g, .int .i64 to, .int .i64 x, .int .i64 n] w fun e w' => e = .returned (.int .i64 R1) ∧ GOut W oo g H R2 w' := by
    intro E hE0 hE
    rw [hE] at hR ho
    simp [hE0] at hR ho
    obtain ⟨rfl, rfl⟩ := hR
    have hb : (E != 0) = true := by simpa using hE0
    have hq : GOut W oo g H s w := ⟨N, h, hN⟩
    have HQ := Lib.hid hq
    have HO := Lib.hid ho
    clear ho hh h hN hq hE hE0
    go_enter Try.func20, Try.ntmps20
    go_wp2_with fail
    refine HO.out.mono ?_
    rintro e w1 ⟨rfl, rfl⟩
    go_wp2_with fail
    go_ret
    exact ⟨rfl, HQ.out⟩
  rcases wrong_cases s x with ⟨e1, e2⟩ | ⟨e1, e2, e3⟩ | ⟨e1, e2, e3⟩
  · exact bad 3 (by decide) e2
  · exact bad 4 (by decide) e3
  · clear bad
    rw [e3] at ho hR
    simp at ho hR
    obtain ⟨p, hp, hp1, hpv⟩ := node_at hs hN e2 (held_le hs x)
    rw [hpv] at ho
    rw [← hp1] at hR
    have hno := (nod_at hs e2 (held_le hs x)).2.2.2
    rw [← hp1] at hno
    have HO := Lib.hid ho
    cases et : has s to
    · rw [et] at hh hR
      simp at hR
      obtain ⟨rfl, rfl⟩ := hR
      have HH := Lib.hid hh
      have hq : GOut W oo g H s w := ⟨N, h, hN⟩
      have HQ := Lib.hid hq
      clear ho hh h hN hq e1 e2 e3 et hp hp1 hpv
      go_enter Try.func20, Try.ntmps20
      go_wp2_with fail
      refine HO.out.mono ?_
      rintro e w1 ⟨rfl, rfl⟩
      go_wp2_with fail
      refine HH.out.mono ?_
      rintro e w1 ⟨rfl, rfl⟩
      go_wp2_with fail
      go_ret
      exact ⟨rfl, HQ.out⟩
    · rw [et] at hh hR
      simp at hR
      have HH := Lib.hid hh
      have cs : w.cell? ⟨p.2.b, 0, none⟩ = some (slv p.2.r p.1.refs.length) := by have := (g_node h hp).cell 0; simpa using this
      cases ei : inL n p.1.refs.length
      · rw [ei] at hR
        simp at hR
        obtain ⟨rfl, rfl⟩ := hR
        have hq : GOut W oo g H s w := ⟨N, h, hN⟩
        have HQ := Lib.hid hq
        unfold inL at ei
        generalize p.1.refs.length = m at *
        clear ho hh h hN hq e1 e2 e3 et hp hp1 hpv
        by_cases n0 : 0 ≤ n
        · have n1 : ¬ n < m := by intro h; simp [n0, h] at ei
          clear ei
          go_enter Try.func20, Try.ntmps20
          go_wp2_with fail
          refine HO.out.mono ?_
          rintro e w1 ⟨rfl, rfl⟩
          go_wp2_with fail
          refine HH.out.mono ?_
          rintro e w1 ⟨rfl, rfl⟩
          go_wp2_with fail
          go_ret
          exact ⟨rfl, HQ.out⟩
        · clear ei
          go_enter Try.func20, Try.ntmps20
          go_wp2_with fail
          refine HO.out.mono ?_
          rintro e w1 ⟨rfl, rfl⟩
          go_wp2_with fail
          refine HH.out.mono ?_
          rintro e w1 ⟨rfl, rfl⟩
          go_wp2_with fail
          go_ret
          exact ⟨rfl, HQ.out⟩
      · rw [ei] at hR
        simp at hR
        obtain ⟨n0, n1⟩ := (inL_iff _ _).1 ei
        obtain ⟨t0, t1⟩ := (has_iff s to).1 et
        have cn : w.cell? ⟨p.2.r, n.toNat, none⟩ = some (pv N (p.1.refs[n.toNat]?.getD 0)) := by rw [(g_refs h hp).cell, pvs_get (by omega)]
        have ch := cell_h h et
        have fh := (g_hs h).frozen to.toNat
        have fn := (g_refs h hp).frozen n.toNat
        obtain ⟨rfl, hR2⟩ := hR
        have hq : GOut W oo g H R2 (w.setCell ⟨H, to.toNat, none⟩ (pv N (p.1.refs[n.toNat]?.getD 0))) := by
          rw [← hR2]
          exact ⟨N, g_set_h h _ _, hN⟩
        have HQ := Lib.hid hq
        obtain ⟨v1, hv1⟩ := pv_ptr N (p.1.refs[n.toNat]?.getD 0)
        rw [hv1] at cn HQ
        clear hv1
        obtain ⟨v2, hv2⟩ := pv_ptr N (held s to)
        rw [hv2] at ch
        clear hv2
        generalize p.1.refs.length = m at *
        generalize s.hs.length = k at *
        clear ho hh h hN hq e1 e2 e3 et hp hp1 hpv hR2 ei hs
        go_enter Try.func20, Try.ntmps20
        go_wp2_with fail
        refine HO.out.mono ?_
        rintro e w1 ⟨rfl, rfl⟩
        go_wp2_with fail
        refine HH.out.mono ?_
        rintro e w1 ⟨rfl, rfl⟩
        go_wp2_with fail
        go_region
        go_wp2_with fail
        go_ret
        exact ⟨rfl, HQ.out.drew⟩
set_option maxHeartbeats 1000000 in
theorem set_in (x n fr : Int) (h : SepO W oo w (gparts g H s.largest s.hs N)) (hs : s.ok) (hN : N.map (·.1) = s.nodes) :
    Calls Try.prog 21 #[pt g, .int .i64 x, .int .i64 n, .int .i64 fr] w fun e w' => e = .returned (.int .i64 (gset s x n fr).1) ∧ GOut W oo g H (gset s x n fr).2 w' := by
  obtain ⟨⟨R1, R2⟩, hR⟩ : ∃ R, gset s x n fr = R := ⟨_, rfl⟩
  rw [hR]
  simp only []
  unfold gset at hR
  have c0 := (g_blk h).cell 0
  simp at c0
  have hl := hs.hlen
  have ho := object_in x h hs hN
  have hh := has_in fr h hs
  have bad : ∀ E : Int, E ≠ 0 → wrong s x = E → Calls Try.prog 21 #[pt g, .int .i64 x, .int .i64 n, .int .i64 fr] w fun e w' => e = .returned (.int .i64 R1) ∧ GOut W oo g H R2 w' := by
    intro E hE0 hE
    rw [hE] at hR ho
    simp [hE0] at hR ho
    obtain ⟨rfl, rfl⟩ := hR
    have hb : (E != 0) = true := by simpa using hE0
    have hq : GOut W oo g H s w := ⟨N, h, hN⟩
    have HQ := Lib.hid hq
    have HO := Lib.hid ho
    clear ho hh h hN hq hE hE0
    go_enter Try.func21, Try.ntmps21
    go_wp2_with fail
    refine HO.out.mono ?_
    rintro e w1 ⟨rfl, rfl⟩
    go_wp2_with fail
    go_ret
    exact ⟨rfl, HQ.out⟩
  rcases wrong_cases s x with ⟨e1, e2⟩ | ⟨e1, e2, e3⟩ | ⟨e1, e2, e3⟩
  · exact bad 3 (by decide) e2
  · exact bad 4 (by decide) e3
  · clear bad
    rw [e3] at ho hR
    simp at ho hR
    obtain ⟨p, hp, hp1, hpv⟩ := node_at hs hN e2 (held_le hs x)
    rw [hpv] at ho
    rw [← hp1] at hR
    have hno := (nod_at hs e2 (held_le hs x)).2.2.2
    rw [← hp1] at hno
    have HO := Lib.hid ho
    cases et : has s fr
    · rw [et] at hh hR
      simp at hR
      obtain ⟨rfl, rfl⟩ := hR
      have HH := Lib.hid hh
      have hq : GOut W oo g H s w := ⟨N, h, hN⟩
      have HQ := Lib.hid hq
      clear ho hh h hN hq e1 e2 e3 et hp hp1 hpv
      go_enter Try.func21, Try.ntmps21
      go_wp2_with fail
      refine HO.out.mono ?_
      rintro e w1 ⟨rfl, rfl⟩
      go_wp2_with fail
      refine HH.out.mono ?_
      rintro e w1 ⟨rfl, rfl⟩
      go_wp2_with fail
      go_ret
      exact ⟨rfl, HQ.out⟩
    · rw [et] at hh hR
      simp at hR
      have HH := Lib.hid hh
      have cs : w.cell? ⟨p.2.b, 0, none⟩ = some (slv p.2.r p.1.refs.length) := by have := (g_node h hp).cell 0; simpa using this
      cases ei : inL n p.1.refs.length
      · rw [ei] at hR
        simp at hR
        obtain ⟨rfl, rfl⟩ := hR
        have hq : GOut W oo g H s w := ⟨N, h, hN⟩
        have HQ := Lib.hid hq
        unfold inL at ei
        generalize p.1.refs.length = m at *
        clear ho hh h hN hq e1 e2 e3 et hp hp1 hpv
        by_cases n0 : 0 ≤ n
        · have n1 : ¬ n < m := by intro h; simp [n0, h] at ei
          clear ei
          go_enter Try.func21, Try.ntmps21
          go_wp2_with fail
          refine HO.out.mono ?_
          rintro e w1 ⟨rfl, rfl⟩
          go_wp2_with fail
          refine HH.out.mono ?_
          rintro e w1 ⟨rfl, rfl⟩
          go_wp2_with fail
          go_ret
          exact ⟨rfl, HQ.out⟩
        · clear ei
          go_enter Try.func21, Try.ntmps21
          go_wp2_with fail
          refine HO.out.mono ?_
          rintro e w1 ⟨rfl, rfl⟩
          go_wp2_with fail
          refine HH.out.mono ?_
          rintro e w1 ⟨rfl, rfl⟩
          go_wp2_with fail
          go_ret
          exact ⟨rfl, HQ.out⟩
      · rw [ei] at hR
        simp at hR
        obtain ⟨n0, n1⟩ := (inL_iff _ _).1 ei
        obtain ⟨t0, t1⟩ := (has_iff s fr).1 et
        have cn : w.cell? ⟨p.2.r, n.toNat, none⟩ = some (pv N (p.1.refs[n.toNat]?.getD 0)) := by rw [(g_refs h hp).cell, pvs_get (by omega)]
        have ch := cell_h h et
        have fh := (g_hs h).frozen fr.toNat
        have fn := (g_refs h hp).frozen n.toNat
        obtain ⟨rfl, hR2⟩ := hR
        have hq : GOut W oo g H R2 (w.setCell ⟨p.2.r, n.toNat, none⟩ (pv N (held s fr))) := by
          rw [← hR2]
          exact ⟨_, g_set_r h hp _ _, by rw [List.map_set, hN]; rfl⟩
        have HQ := Lib.hid hq
        obtain ⟨v1, hv1⟩ := pv_ptr N (p.1.refs[n.toNat]?.getD 0)
        rw [hv1] at cn
        clear hv1
        obtain ⟨v2, hv2⟩ := pv_ptr N (held s fr)
        rw [hv2] at ch HQ
        clear hv2
        generalize p.1.refs.length = m at *
        generalize s.hs.length = k at *
        clear ho hh h hN hq e1 e2 e3 et hp hp1 hpv hR2 ei hs
        go_enter Try.func21, Try.ntmps21
        go_wp2_with fail
        refine HO.out.mono ?_
        rintro e w1 ⟨rfl, rfl⟩
        go_wp2_with fail
        refine HH.out.mono ?_
        rintro e w1 ⟨rfl, rfl⟩
        go_wp2_with fail
        go_region
        go_wp2_with fail
        go_ret
        exact ⟨rfl, HQ.out.drew⟩
end
end Go.Proofs.Ytoldhaomacnigaa.Gr
