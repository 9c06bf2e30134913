/- Contracts of the reference's graph: has, wrong, change. No condition. -/
import Derived.Test.YtoldhaomacnigaaRgMem
set_option linter.unusedVariables false
set_option linter.unusedSimpArgs false
namespace Go.Proofs.Ytoldhaomacnigaa.Rg
open Go.RowKit Go.Proofs.Ytoldhaomacnigaa.W Go.Proofs.Ytoldhaomacnigaa Go.Proofs.Ytoldhaomacnigaa.Gr
theorem rnode_at {s : GS} {N : RL} (hs : s.ok) (hN : N.map (·.1) = s.nodes) {i : Nat} (h0 : i ≠ 0) (h1 : i ≤ s.nodes.length) : ∃ p, N[i - 1]? = some p ∧ p.1 = nod s i := by
  have hl : N.length = s.nodes.length := by rw [← hN]; simp
  have e : N[i - 1]? = some (N[i - 1]'(by omega)) := List.getElem?_eq_getElem (by omega)
  exact ⟨_, e, by unfold nod; rw [← hN, List.getElem?_map, e]; rfl⟩
section
variable {W w : World} {oo : Nat → Prop} {g : Nat} {s : GS} {k : RK} {N : RL} {m : List Pr}
theorem r_cells (h : SepO W oo w (rparts g s.largest k s.hs N ++ m)) : w.cell? ⟨g, 0, none⟩ = some (.slice k.A (N.length + 1) k.c) ∧ w.cell? ⟨g, 1, none⟩ = some (.slice k.B s.hs.length k.d) ∧ w.cell? ⟨g, 2, none⟩ = some (.int .i64 s.largest) := by
  have hb := r_blk h.first
  exact ⟨hb.cell 0, hb.cell 1, hb.cell 2⟩
theorem r_held (h : SepO W oo w (rparts g s.largest k s.hs N ++ m)) {x : Int} (hx : has s x = true) {G off : Nat} (hB : k.B = some ⟨G, off, none⟩) : w.cell? ⟨G, off + x.toNat, none⟩ = some (.int .i64 (held s x : Int)) := by
  obtain ⟨x0, x1⟩ := (has_iff s x).1 hx
  obtain ⟨G', off', hB', _, hc, _⟩ := r_hs h.first (i := x.toNat) (by omega)
  rw [hB] at hB'
  cases hB'
  exact hc
theorem has_r (x : Int) (h : SepO W oo w (rparts g s.largest k s.hs N ++ m)) (hs : s.ok) : Calls Try.prog 28 #[pt g, .int .i64 x] w fun e w' => e = .returned (.bool (has s x)) ∧ w = w' := by
  obtain ⟨_, c0, _⟩ := r_cells h
  have hl := hs.hlen
  obtain ⟨R, hR⟩ : ∃ R, has s x = R := ⟨_, rfl⟩
  rw [hR]
  unfold has at hR
  by_cases h0 : 0 ≤ x
  · by_cases h1 : x < s.hs.length
    · have : R = true := by rw [← hR]; simp [h0, h1]
      subst this
      clear hR h
      go_enter Try.func28, Try.ntmps28
      go_wp2
      go_ret
      exact ⟨rfl, rfl⟩
    · have : R = false := by rw [← hR]; simp [h0, h1]
      subst this
      clear hR h
      go_enter Try.func28, Try.ntmps28
      go_wp2
      go_ret
      exact ⟨rfl, rfl⟩
  · have : R = false := by rw [← hR]; simp [h0]
    subst this
    clear hR h
    go_enter Try.func28, Try.ntmps28
    go_wp2
    go_ret
    exact ⟨rfl, rfl⟩
theorem wrong_r (x : Int) (h : SepO W oo w (rparts g s.largest k s.hs N ++ m)) (hs : s.ok) : Calls Try.prog 27 #[pt g, .int .i64 x] w fun e w' => e = .returned (.int .i64 (wrong s x)) ∧ w = w' := by
  obtain ⟨_, c0, _⟩ := r_cells h
  have hl := hs.hlen
  have hh := has_r x h hs
  have HH := Lib.hid hh
  clear hh
  rcases wrong_cases s x with ⟨e1, e2⟩ | ⟨e1, e2, e3⟩ | ⟨e1, e2, e3⟩
  · rw [e2]
    have HE := Lib.hid e1
    clear e1 e2 h
    go_enter Try.func27, Try.ntmps27
    go_wp2_with fail
    refine HH.out.mono ?_
    rintro e w1 ⟨rfl, rfl⟩
    rw [HE.out]
    go_wp2_with fail
    go_ret
    exact ⟨rfl, rfl⟩
  all_goals
    rw [e3]
    obtain ⟨x0, x1⟩ := (has_iff s x).1 e1
    obtain ⟨G, off, hB, _, hc, _⟩ := r_hs h.first (i := x.toNat) (by omega)
    rw [hB] at c0
    replace hc : w.cell? ⟨G, off + x.toNat, none⟩ = some (.int .i64 (held s x : Int)) := hc
    have HE := Lib.hid e1
    clear e1 e3 h hB
    generalize held s x = y at *
    first
      | (subst e2
         go_enter Try.func27, Try.ntmps27
         go_wp2_with fail
         refine HH.out.mono ?_
         rintro e w1 ⟨rfl, rfl⟩
         rw [HE.out]
         go_wp2_with fail
         go_ret
         exact ⟨rfl, rfl⟩)
      | (have hb : ((y : Int) == 0) = false := by simpa using e2
         clear e2
         go_enter Try.func27, Try.ntmps27
         go_wp2_with fail
         refine HH.out.mono ?_
         rintro e w1 ⟨rfl, rfl⟩
         rw [HE.out]
         go_wp2_with fail
         go_ret
         exact ⟨rfl, rfl⟩)
/-- The graph behind a step, in memory. -/
def ROut (W : World) (oo : Nat → Prop) (g : Nat) (s : GS) (w : World) : Prop := ∃ k N, SepO W oo w (rparts g s.largest k s.hs N) ∧ N.map (·.1) = s.nodes
theorem ROut.drew (h : ROut W oo g s w) : ROut W oo g s w.drew := by
  obtain ⟨k, N, h1, h2⟩ := h
  exact ⟨k, N, h1.drew, h2⟩
theorem ROut.drewN (h : ROut W oo g s w) (n : Nat) : ROut W oo g s (w.drewN n) := by
  obtain ⟨k, N, h1, h2⟩ := h
  exact ⟨k, N, h1.drewN n, h2⟩
theorem ROut.alloc (h : ROut W oo g s w) (o : Obj) : ROut W oo g s (w.alloc o) := by
  obtain ⟨k, N, h1, h2⟩ := h
  exact ⟨k, N, h1.alloc o, h2⟩

set_option maxRecDepth 20000 in
set_option maxHeartbeats 2000000 in
theorem ch_get (a b c v : Int) (h : SepO W oo w (rparts g s.largest k s.hs N)) (hs : s.ok) (hN : N.map (·.1) = s.nodes) :
    Calls Try.prog 26 #[pt g, stp ⟨2, a, b, c, v⟩] w fun e w' => e = .returned (.int .i64 (gget s a b c).1) ∧ ROut W oo g (gget s a b c).2 w' := by
  obtain ⟨⟨R1, R2⟩, hR⟩ : ∃ R, gget s a b c = R := ⟨_, rfl⟩
  rw [hR]
  simp only []
  have hl := hs.hlen
  have h1 := h.new_blk 33 (stc ⟨2, a, b, c, v⟩)
  have hq : ROut W oo g s (w.alloc (.cells (stc ⟨2, a, b, c, v⟩) 33)) := ⟨k, N, h.alloc _, hN⟩
  have HQ := Lib.hid hq
  clear hq
  unfold gget at hR
  have hw := wrong_r b h1 hs
  have hh := has_r a h1 hs
  have HW := Lib.hid hw
  have HH := Lib.hid hh
  clear hw hh
  have bad : ∀ E : Int, E ≠ 0 → wrong s b = E → Calls Try.prog 26 #[pt g, stp ⟨2, a, b, c, v⟩] w fun e w' => e = .returned (.int .i64 R1) ∧ ROut W oo g R2 w' := by
    intro E hE0 hE
    rw [hE] at hR
    simp [hE0] at hR
    obtain ⟨rfl, rfl⟩ := hR
    have hb : (E != 0) = true := by simpa using hE0
    have HE := Lib.hid hE
    clear h hN h1 hE hE0
    go_enter Try.func26, Try.ntmps26
    go_wp2_with fail
    refine HW.out.mono ?_
    rintro e w1 ⟨rfl, rfl⟩
    rw [HE.out]
    go_wp2_with fail
    go_ret
    exact ⟨rfl, HQ.out⟩
  rcases wrong_cases s b with ⟨e1, e2⟩ | ⟨e1, e2, e3⟩ | ⟨e1, e2, e3⟩
  · exact bad 3 (by decide) e2
  · exact bad 4 (by decide) e3
  · clear bad
    rw [e3] at hR
    simp at hR
    have HE := Lib.hid e3
    cases et : has s a
    · rw [et] at hR
      simp at hR
      obtain ⟨rfl, rfl⟩ := hR
      have HT := Lib.hid et
      clear h hN h1 e1 e2 e3 et
      go_enter Try.func26, Try.ntmps26
      go_wp2_with fail
      refine HW.out.mono ?_
      rintro e w1 ⟨rfl, rfl⟩
      rw [HE.out]
      go_wp2_with fail
      refine HH.out.mono ?_
      rintro e w1 ⟨rfl, rfl⟩
      rw [HT.out]
      go_wp2_with fail
      go_ret
      exact ⟨rfl, HQ.out⟩
    · rw [et] at hR
      simp at hR
      have HT := Lib.hid et
      obtain ⟨p, hp, hp1⟩ := rnode_at hs hN e2 (held_le hs b)
      have hno := (nod_at hs e2 (held_le hs b)).2.2.2
      rw [← hp1] at hR hno
      obtain ⟨o0, o1⟩ := (has_iff s b).1 e1
      obtain ⟨t0, t1⟩ := (has_iff s a).1 et
      have hN1 : N.length = s.nodes.length := by rw [← hN]; simp
      have hle := held_le hs b
      obtain ⟨G, hA, _, _, hkc⟩ := r_row h
      obtain ⟨GB, off, hB, hBl, _, _, _⟩ := r_hs h (i := b.toNat) (by omega)
      have fc := fun (X : World) (l : List Pr) (hX : SepO W oo X (rparts g s.largest k s.hs N ++ l)) => r_cells hX
      have fh := fun (X : World) (l : List Pr) (hX : SepO W oo X (rparts g s.largest k s.hs N ++ l)) => r_held hX e1 hB
      have ft := fun (X : World) (l : List Pr) (hX : SepO W oo X (rparts g s.largest k s.hs N ++ l)) => r_held hX et hB
      have fn := fun (X : World) (l : List Pr) (hX : SepO W oo X (rparts g s.largest k s.hs N ++ l)) => r_node hX.first e2 hp hA
      rw [hA, hB] at fc
      have c0 := (fc _ _ h1).1
      have c1 := (fc _ _ h1).2.1
      have c2 := fh _ _ h1
      have c3 := (fn _ _ h1).1
      have c4 := (fn _ _ h1).2
      have d0 := fun o => (fc _ _ (h1.alloc o)).1
      have d1 := fun o => (fc _ _ (h1.alloc o)).2.1
      have d2 := fun o => ft _ _ (h1.alloc o)
      have y := held s b
      cases ei : inL c p.1.refs.length
      · rw [ei] at hR
        simp at hR
        obtain ⟨rfl, rfl⟩ := hR
        unfold inL at ei
        generalize p.1.refs.length = M at *
        generalize hy : held s b = Y at *
        clear fc fh ft fn h hN h1 e1 e2 e3 et hp hp1 hy
        by_cases n0 : 0 ≤ c
        · have n1 : ¬ c < M := by intro h; simp [n0, h] at ei
          clear ei
          go_enter Try.func26, Try.ntmps26
          go_wp2_with fail
          refine HW.out.mono ?_
          rintro e w1 ⟨rfl, rfl⟩
          rw [HE.out]
          go_wp2_with fail
          refine HH.out.mono ?_
          rintro e w1 ⟨rfl, rfl⟩
          rw [HT.out]
          go_wp2_with fail
          go_region
          all_goals
            go_wp2_with fail
            go_ret
            exact ⟨rfl, by first | exact HQ.out.alloc _ | exact (HQ.out.alloc _).drew | exact (HQ.out.alloc _).drewN _⟩
        · clear ei
          go_enter Try.func26, Try.ntmps26
          go_wp2_with fail
          refine HW.out.mono ?_
          rintro e w1 ⟨rfl, rfl⟩
          rw [HE.out]
          go_wp2_with fail
          refine HH.out.mono ?_
          rintro e w1 ⟨rfl, rfl⟩
          rw [HT.out]
          go_wp2_with fail
          go_region
          all_goals
            go_wp2_with fail
            go_ret
            exact ⟨rfl, by first | exact HQ.out.alloc _ | exact (HQ.out.alloc _).drew | exact (HQ.out.alloc _).drewN _⟩
      · rw [ei] at hR
        simp at hR
        obtain ⟨rfl, hR2⟩ := hR
        obtain ⟨n0, n1⟩ := (inL_iff _ _).1 ei
        have fr := fun (X : World) (l : List Pr) (hX : SepO W oo X (rparts g s.largest k s.hs N ++ l)) => (r_refs hX.first hp).cell c.toNat
        simp only [List.getElem?_toArray, nats_get (show c.toNat < p.1.refs.length by omega)] at fr
        have d3 := fun o => fr _ _ (h1.alloc o)
        have f3 := fun o => (r_refs (h1.alloc o).first hp).frozen c.toNat
        have ff : ∀ o, ((w.alloc (.cells (stc ⟨2, a, b, c, v⟩) 33)).alloc o).frozen? ⟨GB, off + a.toNat, none⟩ = false := fun o => by
          obtain ⟨G', off', hB', _, _, hf, _⟩ := r_hs (h1.alloc o).first (i := a.toNat) (by omega)
          rw [hB] at hB'
          cases hB'
          exact hf
        have hfin : ROut W oo g R2 (w.setCell ⟨GB, off + a.toNat, none⟩ (.int .i64 ((p.1.refs[c.toNat]?.getD 0 : Nat) : Int))) := by
          obtain ⟨G', off', hB', _, _, _, hf⟩ := r_hs h (i := a.toNat) (by omega)
          rw [hB] at hB'
          cases hB'
          rw [← hR2]
          exact ⟨k, N, hf _, hN⟩
        have HF := Lib.hid hfin
        generalize ((p.1.refs[c.toNat]?.getD 0 : Nat) : Int) = y1 at *
        generalize ((held s a : Nat) : Int) = y2 at *
        generalize p.1.refs.length = M at *
        generalize hy : held s b = Y at *
        clear fc fh ft fn fr hfin h hN h1 e1 e2 e3 et hp hp1 hy hR2 ei
        go_enter Try.func26, Try.ntmps26
        go_wp2_with fail
        refine HW.out.mono ?_
        rintro e w1 ⟨rfl, rfl⟩
        rw [HE.out]
        go_wp2_with fail
        refine HH.out.mono ?_
        rintro e w1 ⟨rfl, rfl⟩
        rw [HT.out]
        go_wp2_with fail
        go_region
        all_goals
          go_wp2_with fail
          go_region
          all_goals
            go_wp2_with fail
            go_ret
            exact ⟨rfl, by first | exact (((HF.out.alloc _).alloc _).drew).drew | exact (HF.out _).drew.drew | exact ((HF.out.alloc _).alloc _).drewN _⟩
set_option maxRecDepth 20000 in
set_option maxHeartbeats 2000000 in
theorem ch_set (a b c v : Int) (h : SepO W oo w (rparts g s.largest k s.hs N)) (hs : s.ok) (hN : N.map (·.1) = s.nodes) :
    Calls Try.prog 26 #[pt g, stp ⟨3, a, b, c, v⟩] w fun e w' => e = .returned (.int .i64 (gset s a b c).1) ∧ ROut W oo g (gset s a b c).2 w' := by
  obtain ⟨⟨R1, R2⟩, hR⟩ : ∃ R, gset s a b c = R := ⟨_, rfl⟩
  rw [hR]
  simp only []
  have hl := hs.hlen
  have h1 := h.new_blk 33 (stc ⟨3, a, b, c, v⟩)
  have hq : ROut W oo g s (w.alloc (.cells (stc ⟨3, a, b, c, v⟩) 33)) := ⟨k, N, h.alloc _, hN⟩
  have HQ := Lib.hid hq
  clear hq
  unfold gset at hR
  have hw := wrong_r a h1 hs
  have hh := has_r c h1 hs
  have HW := Lib.hid hw
  have HH := Lib.hid hh
  clear hw hh
  have bad : ∀ E : Int, E ≠ 0 → wrong s a = E → Calls Try.prog 26 #[pt g, stp ⟨3, a, b, c, v⟩] w fun e w' => e = .returned (.int .i64 R1) ∧ ROut W oo g R2 w' := by
    intro E hE0 hE
    rw [hE] at hR
    simp [hE0] at hR
    obtain ⟨rfl, rfl⟩ := hR
    have hb : (E != 0) = true := by simpa using hE0
    have HE := Lib.hid hE
    clear h hN h1 hE hE0
    go_enter Try.func26, Try.ntmps26
    go_wp2_with fail
    refine HW.out.mono ?_
    rintro e w1 ⟨rfl, rfl⟩
    rw [HE.out]
    go_wp2_with fail
    go_ret
    exact ⟨rfl, HQ.out⟩
  rcases wrong_cases s a with ⟨e1, e2⟩ | ⟨e1, e2, e3⟩ | ⟨e1, e2, e3⟩
  · exact bad 3 (by decide) e2
  · exact bad 4 (by decide) e3
  · clear bad
    rw [e3] at hR
    simp at hR
    have HE := Lib.hid e3
    cases et : has s c
    · rw [et] at hR
      simp at hR
      obtain ⟨rfl, rfl⟩ := hR
      have HT := Lib.hid et
      clear h hN h1 e1 e2 e3 et
      go_enter Try.func26, Try.ntmps26
      go_wp2_with fail
      refine HW.out.mono ?_
      rintro e w1 ⟨rfl, rfl⟩
      rw [HE.out]
      go_wp2_with fail
      refine HH.out.mono ?_
      rintro e w1 ⟨rfl, rfl⟩
      rw [HT.out]
      go_wp2_with fail
      go_ret
      exact ⟨rfl, HQ.out⟩
    · rw [et] at hR
      simp at hR
      have HT := Lib.hid et
      obtain ⟨p, hp, hp1⟩ := rnode_at hs hN e2 (held_le hs a)
      have hno := (nod_at hs e2 (held_le hs a)).2.2.2
      rw [← hp1] at hR hno
      obtain ⟨o0, o1⟩ := (has_iff s a).1 e1
      obtain ⟨t0, t1⟩ := (has_iff s c).1 et
      have hN1 : N.length = s.nodes.length := by rw [← hN]; simp
      have hle := held_le hs a
      obtain ⟨G, hA, _, _, hkc⟩ := r_row h
      obtain ⟨GB, off, hB, hBl, _, _, _⟩ := r_hs h (i := a.toNat) (by omega)
      have fc := fun (X : World) (l : List Pr) (hX : SepO W oo X (rparts g s.largest k s.hs N ++ l)) => r_cells hX
      have fh := fun (X : World) (l : List Pr) (hX : SepO W oo X (rparts g s.largest k s.hs N ++ l)) => r_held hX e1 hB
      have ft := fun (X : World) (l : List Pr) (hX : SepO W oo X (rparts g s.largest k s.hs N ++ l)) => r_held hX et hB
      have fn := fun (X : World) (l : List Pr) (hX : SepO W oo X (rparts g s.largest k s.hs N ++ l)) => r_node hX.first e2 hp hA
      rw [hA, hB] at fc
      have c0 := (fc _ _ h1).1
      have c1 := (fc _ _ h1).2.1
      have c2 := fh _ _ h1
      have c3 := (fn _ _ h1).1
      have c4 := (fn _ _ h1).2
      have d0 := fun o => (fc _ _ (h1.alloc o)).1
      have d1 := fun o => (fc _ _ (h1.alloc o)).2.1
      have d2 := fun o => ft _ _ (h1.alloc o)
      have y := held s a
      cases ei : inL b p.1.refs.length
      · rw [ei] at hR
        simp at hR
        obtain ⟨rfl, rfl⟩ := hR
        unfold inL at ei
        generalize p.1.refs.length = M at *
        generalize hy : held s a = Y at *
        clear fc fh ft fn h hN h1 e1 e2 e3 et hp hp1 hy
        by_cases n0 : 0 ≤ b
        · have n1 : ¬ b < M := by intro h; simp [n0, h] at ei
          clear ei
          go_enter Try.func26, Try.ntmps26
          go_wp2_with fail
          refine HW.out.mono ?_
          rintro e w1 ⟨rfl, rfl⟩
          rw [HE.out]
          go_wp2_with fail
          refine HH.out.mono ?_
          rintro e w1 ⟨rfl, rfl⟩
          rw [HT.out]
          go_wp2_with fail
          go_region
          all_goals
            go_wp2_with fail
            go_ret
            exact ⟨rfl, by first | exact HQ.out.alloc _ | exact (HQ.out.alloc _).drew | exact (HQ.out.alloc _).drewN _⟩
        · clear ei
          go_enter Try.func26, Try.ntmps26
          go_wp2_with fail
          refine HW.out.mono ?_
          rintro e w1 ⟨rfl, rfl⟩
          rw [HE.out]
          go_wp2_with fail
          refine HH.out.mono ?_
          rintro e w1 ⟨rfl, rfl⟩
          rw [HT.out]
          go_wp2_with fail
          go_region
          all_goals
            go_wp2_with fail
            go_ret
            exact ⟨rfl, by first | exact HQ.out.alloc _ | exact (HQ.out.alloc _).drew | exact (HQ.out.alloc _).drewN _⟩
      · rw [ei] at hR
        simp at hR
        obtain ⟨rfl, hR2⟩ := hR
        obtain ⟨n0, n1⟩ := (inL_iff _ _).1 ei
        have fr := fun (X : World) (l : List Pr) (hX : SepO W oo X (rparts g s.largest k s.hs N ++ l)) => (r_refs hX.first hp).cell b.toNat
        simp only [List.getElem?_toArray, nats_get (show b.toNat < p.1.refs.length by omega)] at fr
        have d3 := fun o => fr _ _ (h1.alloc o)
        have f3 := fun o => (r_refs (h1.alloc o).first hp).frozen b.toNat
        have ff : ∀ o, ((w.alloc (.cells (stc ⟨3, a, b, c, v⟩) 33)).alloc o).frozen? ⟨GB, off + c.toNat, none⟩ = false := fun o => by
          obtain ⟨G', off', hB', _, _, hf, _⟩ := r_hs (h1.alloc o).first (i := c.toNat) (by omega)
          rw [hB] at hB'
          cases hB'
          exact hf
        have hfin : ∀ o, ROut W oo g R2 (((w.alloc (.cells (stc ⟨3, a, b, c, v⟩) 33)).alloc o).setCell ⟨p.2.r, b.toNat, none⟩ (.int .i64 (held s c : Int))) := fun o => by
          rw [← hR2]
          exact ⟨k, _, r_set_r (h1.alloc o).first hp _ _, by rw [List.map_set, hN]; rfl⟩
        have HF := Lib.hid hfin
        generalize ((p.1.refs[b.toNat]?.getD 0 : Nat) : Int) = y1 at *
        generalize ((held s c : Nat) : Int) = y2 at *
        generalize p.1.refs.length = M at *
        generalize hy : held s a = Y at *
        clear fc fh ft fn fr hfin h hN h1 e1 e2 e3 et hp hp1 hy hR2 ei
        go_enter Try.func26, Try.ntmps26
        go_wp2_with fail
        refine HW.out.mono ?_
        rintro e w1 ⟨rfl, rfl⟩
        rw [HE.out]
        go_wp2_with fail
        refine HH.out.mono ?_
        rintro e w1 ⟨rfl, rfl⟩
        rw [HT.out]
        go_wp2_with fail
        go_region
        all_goals
          go_wp2_with fail
          go_region
          all_goals
            go_wp2_with fail
            go_ret
            exact ⟨rfl, by first | exact (((HF.out.alloc _).alloc _).drew).drew | exact (HF.out _).drew.drew | exact ((HF.out.alloc _).alloc _).drewN _⟩
end
end Go.Proofs.Ytoldhaomacnigaa.Rg
