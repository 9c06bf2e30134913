/- Contracts of the reference's graph: change, more. No condition. -/
import Derived.Test.YtoldhaomacnigaaRgA
set_option linter.unusedVariables false
set_option linter.unusedSimpArgs false
namespace Go.Proofs.Ytoldhaomacnigaa.Rg
open Go.RowKit Go.Proofs.Ytoldhaomacnigaa.W Go.Proofs.Ytoldhaomacnigaa Go.Proofs.Ytoldhaomacnigaa.Gr
section
variable {W w : World} {oo : Nat → Prop} {g : Nat} {s : GS} {k : RK} {N : RL} {m : List Pr}
set_option maxRecDepth 20000 in
set_option maxHeartbeats 2000000 in
theorem ch_write (a b c v : Int) (h : SepO W oo w (rparts g s.largest k s.hs N)) (hs : s.ok) (hN : N.map (·.1) = s.nodes) :
    Calls Try.prog 26 #[pt g, stp ⟨5, a, b, c, v⟩] w fun e w' => e = .returned (.int .i64 (gwrite s a b v).1) ∧ ROut W oo g (gwrite s a b v).2 w' := by
  obtain ⟨⟨R1, R2⟩, hR⟩ : ∃ R, gwrite s a b v = R := ⟨_, rfl⟩
  rw [hR]
  simp only []
  have hl := hs.hlen
  have h1 := h.new_blk 33 (stc ⟨5, a, b, c, v⟩)
  have hq : ROut W oo g s (w.alloc (.cells (stc ⟨5, a, b, c, v⟩) 33)) := ⟨k, N, h.alloc _, hN⟩
  have HQ := Lib.hid hq
  clear hq
  unfold gwrite at hR
  have hw := wrong_r a h1 hs
  have HW := Lib.hid hw
  clear hw
  have bad : ∀ E : Int, E ≠ 0 → wrong s a = E → Calls Try.prog 26 #[pt g, stp ⟨5, a, b, c, v⟩] w fun e w' => e = .returned (.int .i64 R1) ∧ ROut W oo g R2 w' := by
    intro E hE0 hE
    rw [hE] at hR
    simp [hE0] at hR
    obtain ⟨rfl, rfl⟩ := hR
    have hb : (E != 0) = true := by simpa using hE0
    have HE := Lib.hid hE
    clear h hN h1 hE hE0
    go_enter Try.func26, Try.ntmps26
    go_wp2_with fail
    refine HW.out.mono ?_
    rintro e w1 ⟨rfl, rfl⟩
    rw [HE.out]
    go_wp2_with fail
    go_ret
    exact ⟨rfl, HQ.out⟩
  rcases wrong_cases s a with ⟨e1, e2⟩ | ⟨e1, e2, e3⟩ | ⟨e1, e2, e3⟩
  · exact bad 3 (by decide) e2
  · exact bad 4 (by decide) e3
  · clear bad
    rw [e3] at hR
    simp at hR
    have HE := Lib.hid e3
    obtain ⟨p, hp, hp1⟩ := rnode_at hs hN e2 (held_le hs a)
    have hno := (nod_at hs e2 (held_le hs a)).2.2.2
    rw [← hp1] at hR hno
    obtain ⟨o0, o1⟩ := (has_iff s a).1 e1
    have hN1 : N.length = s.nodes.length := by rw [← hN]; simp
    have hle := held_le hs a
    obtain ⟨G, hA, _, _, hkc⟩ := r_row h
    obtain ⟨GB, off, hB, hBl, _, _, _⟩ := r_hs h (i := a.toNat) (by omega)
    have fc := fun (X : World) (l : List Pr) (hX : SepO W oo X (rparts g s.largest k s.hs N ++ l)) => r_cells hX
    have fh := fun (X : World) (l : List Pr) (hX : SepO W oo X (rparts g s.largest k s.hs N ++ l)) => r_held hX e1 hB
    have fn := fun (X : World) (l : List Pr) (hX : SepO W oo X (rparts g s.largest k s.hs N ++ l)) => r_node hX.first e2 hp hA
    rw [hA, hB] at fc
    have c0 := (fc _ _ h1).1
    have c1 := (fc _ _ h1).2.1
    have c2 := fh _ _ h1
    have c3 := (fn _ _ h1).1
    have c4 := (fn _ _ h1).2
    have d0 := fun o => (fc _ _ (h1.alloc o)).1
    have d1 := fun o => (fc _ _ (h1.alloc o)).2.1
    have d2 := fun o => fh _ _ (h1.alloc o)
    cases ei : inL b p.1.scal.length
    · rw [ei] at hR
      simp at hR
      obtain ⟨rfl, rfl⟩ := hR
      unfold inL at ei
      generalize p.1.scal.length = M at *
      generalize hy : held s a = Y at *
      clear fc fh fn h hN h1 e1 e2 e3 hp hp1 hy
      by_cases n0 : 0 ≤ b
      · have n1 : ¬ b < M := by intro h; simp [n0, h] at ei
        clear ei
        go_enter Try.func26, Try.ntmps26
        go_wp2_with fail
        refine HW.out.mono ?_
        rintro e w1 ⟨rfl, rfl⟩
        rw [HE.out]
        go_wp2_with fail
        go_region
        all_goals
          go_wp2_with fail
          go_ret
          exact ⟨rfl, by first | exact HQ.out.alloc _ | exact (HQ.out.alloc _).drew | exact (HQ.out.alloc _).drewN _⟩
      · clear ei
        go_enter Try.func26, Try.ntmps26
        go_wp2_with fail
        refine HW.out.mono ?_
        rintro e w1 ⟨rfl, rfl⟩
        rw [HE.out]
        go_wp2_with fail
        go_region
        all_goals
          go_wp2_with fail
          go_ret
          exact ⟨rfl, by first | exact HQ.out.alloc _ | exact (HQ.out.alloc _).drew | exact (HQ.out.alloc _).drewN _⟩
    · rw [ei] at hR
      simp at hR
      obtain ⟨rfl, hR2⟩ := hR
      obtain ⟨n0, n1⟩ := (inL_iff _ _).1 ei
      have fr := fun (X : World) (l : List Pr) (hX : SepO W oo X (rparts g s.largest k s.hs N ++ l)) => (r_scal hX.first hp).cell b.toNat
      simp only [wds_get (show b.toNat < p.1.scal.length by omega)] at fr
      have d3 := fun o => fr _ _ (h1.alloc o)
      have f3 := fun o => (r_scal (h1.alloc o).first hp).frozen b.toNat
      have hfin : ∀ o, ROut W oo g R2 (((w.alloc (.cells (stc ⟨5, a, b, c, v⟩) 33)).alloc o).setCell ⟨p.2.s, b.toNat, none⟩ (.int .u64 v)) := fun o => by
        rw [← hR2]
        exact ⟨k, _, r_set_s (h1.alloc o).first hp _ _, by rw [List.map_set, hN]; rfl⟩
      have HF := Lib.hid hfin
      generalize (p.1.scal[b.toNat]?.getD 0) = y1 at *
      generalize p.1.scal.length = M at *
      generalize hy : held s a = Y at *
      clear fc fh fn fr hfin h hN h1 e1 e2 e3 hp hp1 hy hR2 ei
      go_enter Try.func26, Try.ntmps26
      go_wp2_with fail
      refine HW.out.mono ?_
      rintro e w1 ⟨rfl, rfl⟩
      rw [HE.out]
      go_wp2_with fail
      go_region
      all_goals
        go_wp2_with fail
        go_ret
        exact ⟨rfl, by first | exact (HF.out _).drew | exact (HF.out _).drew.drew | exact (HF.out _).drewN _⟩
set_option maxRecDepth 20000 in
set_option maxHeartbeats 2000000 in
theorem ch_clear (a b c v : Int) (h : SepO W oo w (rparts g s.largest k s.hs N)) (hs : s.ok) (hN : N.map (·.1) = s.nodes) :
    Calls Try.prog 26 #[pt g, stp ⟨6, a, b, c, v⟩] w fun e w' => e = .returned (.int .i64 (gclear s a).1) ∧ ROut W oo g (gclear s a).2 w' := by
  obtain ⟨⟨R1, R2⟩, hR⟩ : ∃ R, gclear s a = R := ⟨_, rfl⟩
  rw [hR]
  simp only []
  have hl := hs.hlen
  have h1 := h.new_blk 33 (stc ⟨6, a, b, c, v⟩)
  have hq : ROut W oo g s (w.alloc (.cells (stc ⟨6, a, b, c, v⟩) 33)) := ⟨k, N, h.alloc _, hN⟩
  have HQ := Lib.hid hq
  clear hq
  unfold gclear at hR
  have hw := has_r a h1 hs
  have HW := Lib.hid hw
  clear hw
  cases et : has s a
  · rw [et] at hR
    simp at hR
    obtain ⟨rfl, rfl⟩ := hR
    have HT := Lib.hid et
    clear h hN h1 et
    go_enter Try.func26, Try.ntmps26
    go_wp2_with fail
    refine HW.out.mono ?_
    rintro e w1 ⟨rfl, rfl⟩
    rw [HT.out]
    go_wp2_with fail
    go_ret
    exact ⟨rfl, HQ.out⟩
  · rw [et] at hR
    simp at hR
    obtain ⟨rfl, hR2⟩ := hR
    have HT := Lib.hid et
    obtain ⟨t0, t1⟩ := (has_iff s a).1 et
    obtain ⟨GB, off, hB, hBl, _, _, hf⟩ := r_hs h (i := a.toNat) (by omega)
    obtain ⟨_, _, hB', _, hc', hf', _⟩ := r_hs h1.first (i := a.toNat) (by omega)
    rw [hB] at hB'
    cases hB'
    have fc := r_cells h1
    rw [hB] at fc
    have c1 := fc.2.1
    have hfin : ROut W oo g R2 (w.setCell ⟨GB, off + a.toNat, none⟩ (.int .i64 0)) := by
      rw [← hR2]
      exact ⟨k, N, hf 0, hN⟩
    have HF := Lib.hid hfin
    clear h hN h1 et hR2 hf hfin hB fc
    go_enter Try.func26, Try.ntmps26
    go_wp2_with fail
    refine HW.out.mono ?_
    rintro e w1 ⟨rfl, rfl⟩
    rw [HT.out]
    go_wp2_with fail
    go_region
    all_goals
      go_wp2_with fail
      go_ret
      exact ⟨rfl, by first | exact (HF.out.alloc _).drew | exact (HF.out.alloc _)⟩
set_option maxRecDepth 20000 in
set_option maxHeartbeats 2000000 in
theorem ch_copy (a b c v : Int) (h : SepO W oo w (rparts g s.largest k s.hs N)) (hs : s.ok) (hN : N.map (·.1) = s.nodes) :
    Calls Try.prog 26 #[pt g, stp ⟨7, a, b, c, v⟩] w fun e w' => e = .returned (.int .i64 (gcopy s a b).1) ∧ ROut W oo g (gcopy s a b).2 w' := by
  obtain ⟨⟨R1, R2⟩, hR⟩ : ∃ R, gcopy s a b = R := ⟨_, rfl⟩
  rw [hR]
  simp only []
  have hl := hs.hlen
  have h1 := h.new_blk 33 (stc ⟨7, a, b, c, v⟩)
  have hq : ROut W oo g s (w.alloc (.cells (stc ⟨7, a, b, c, v⟩) 33)) := ⟨k, N, h.alloc _, hN⟩
  have HQ := Lib.hid hq
  clear hq
  unfold gcopy at hR
  have hw := has_r a h1 hs
  have hw2 := has_r b h1 hs
  have HW := Lib.hid hw
  have HW2 := Lib.hid hw2
  clear hw hw2
  cases et : has s a
  · rw [et] at hR
    simp at hR
    obtain ⟨rfl, rfl⟩ := hR
    have HT := Lib.hid et
    clear h hN h1 et
    go_enter Try.func26, Try.ntmps26
    go_wp2_with fail
    refine HW.out.mono ?_
    rintro e w1 ⟨rfl, rfl⟩
    rw [HT.out]
    go_wp2_with fail
    go_ret
    exact ⟨rfl, HQ.out⟩
  · cases eb : has s b
    · rw [et, eb] at hR
      simp at hR
      obtain ⟨rfl, rfl⟩ := hR
      have HT := Lib.hid et
      have HT2 := Lib.hid eb
      clear h hN h1 et eb
      go_enter Try.func26, Try.ntmps26
      go_wp2_with fail
      refine HW.out.mono ?_
      rintro e w1 ⟨rfl, rfl⟩
      rw [HT.out]
      go_wp2_with fail
      refine HW2.out.mono ?_
      rintro e w1 ⟨rfl, rfl⟩
      rw [HT2.out]
      go_wp2_with fail
      go_ret
      exact ⟨rfl, HQ.out⟩
    · rw [et, eb] at hR
      simp at hR
      obtain ⟨rfl, hR2⟩ := hR
      have HT := Lib.hid et
      have HT2 := Lib.hid eb
      obtain ⟨t0, t1⟩ := (has_iff s a).1 et
      obtain ⟨u0, u1⟩ := (has_iff s b).1 eb
      obtain ⟨GB, off, hB, hBl, _, _, hf⟩ := r_hs h (i := a.toNat) (by omega)
      obtain ⟨_, _, hB', _, hc', hf', _⟩ := r_hs h1.first (i := a.toNat) (by omega)
      rw [hB] at hB'
      cases hB'
      have hcb := r_held h1 eb hB
      have fc := r_cells h1
      rw [hB] at fc
      have c1 := fc.2.1
      have hfin : ROut W oo g R2 (w.setCell ⟨GB, off + a.toNat, none⟩ (.int .i64 (held s b : Int))) := by
        rw [← hR2]
        exact ⟨k, N, hf _, hN⟩
      have HF := Lib.hid hfin
      generalize ((held s b : Nat) : Int) = Y at *
      clear h hN h1 et eb hR2 hf hfin hB fc
      go_enter Try.func26, Try.ntmps26
      go_wp2_with fail
      refine HW.out.mono ?_
      rintro e w1 ⟨rfl, rfl⟩
      rw [HT.out]
      go_wp2_with fail
      refine HW2.out.mono ?_
      rintro e w1 ⟨rfl, rfl⟩
      rw [HT2.out]
      go_wp2_with fail
      go_region
      all_goals
        go_wp2_with fail
        go_ret
        exact ⟨rfl, by first | exact (HF.out.alloc _).drew | exact (HF.out.alloc _)⟩
end
end Go.Proofs.Ytoldhaomacnigaa.Rg
