/- Contracts of the reference's graph: Do. No condition. -/
import Derived.Test.YtoldhaomacnigaaRgC
set_option linter.unusedVariables false
set_option linter.unusedSimpArgs false
namespace Go.Proofs.Ytoldhaomacnigaa.Rg
open Go.RowKit Go.Proofs.Ytoldhaomacnigaa.W Go.Proofs.Ytoldhaomacnigaa Go.Proofs.Ytoldhaomacnigaa.Gr
section
variable {W w : World} {oo : Nat → Prop} {g : Nat} {s : GS} {k : RK} {N : RL}

set_option maxRecDepth 20000 in
set_option maxHeartbeats 4000000 in
theorem do_read (a b c v : Int) (h : SepO W oo w (rparts g s.largest k s.hs N)) (hs : s.ok) (hN : N.map (·.1) = s.nodes) :
    Calls Try.prog 12 #[pt g, stp ⟨4, a, b, c, v⟩] w fun e w' => e = .returned (.agg (gread s a b).cells) ∧ Keep (fun _ => False) w w' := by
  obtain ⟨R, hR⟩ : ∃ R, (gread s a b).cells = R := ⟨_, rfl⟩
  rw [hR]
  have hl := hs.hlen
  have h2 := fun o o' => (show SepO W oo ((w.alloc o).alloc o') (rparts g s.largest k s.hs N ++ []) by rw [List.append_nil]; exact (h.alloc o).alloc o')
  unfold gread at hR
  have hw := fun o o' => wrong_r a (h2 o o') hs
  have HW := Lib.hid hw
  clear hw
  have bad : ∀ E : Int, E ≠ 0 → wrong s a = E → Calls Try.prog 12 #[pt g, stp ⟨4, a, b, c, v⟩] w fun e w' => e = .returned (.agg R) ∧ Keep (fun _ => False) w w' := by
    intro E hE0 hE
    rw [hE, if_neg hE0] at hR
    have HR := Lib.hid hR
    have hb : (E != 0) = true := by simpa using hE0
    have HE := Lib.hid hE
    clear h hN h2 hE hE0 hR
    go_enter Try.func12, Try.ntmps12
    go_wp2_with fail
    refine (HW.out _ _).mono ?_
    rintro e w1 ⟨rfl, rfl⟩
    rw [HE.out]
    go_wp2_with fail
    refine bodyPost_ret (v := .agg #[.int .i64 E, .bool false, .int .i64 0, .int .u64 0]) (by simp [results, Try.results12, go_sem]) rfl ⟨?_, ?_⟩
    · rw [← HR.out]; rfl
    · first | exact ((Keep.refl _ _).alloc _).alloc _ | exact (((Keep.refl _ _).alloc _).alloc _).drew | exact (((Keep.refl _ _).alloc _).alloc _).drewN _ | exact (((Keep.refl _ _).alloc _).alloc _).alloc _ | exact ((((Keep.refl _ _).alloc _).alloc _).alloc _).drew | exact ((((Keep.refl _ _).alloc _).alloc _).alloc _).drewN _ | exact ((((Keep.refl _ _).alloc _).alloc _).alloc _).drew.drew
  rcases wrong_cases s a with ⟨e1, e2⟩ | ⟨e1, e2, e3⟩ | ⟨e1, e2, e3⟩
  · exact bad 3 (by decide) e2
  · exact bad 4 (by decide) e3
  · clear bad
    rw [e3] at hR
    simp at hR
    have HE := Lib.hid e3
    obtain ⟨p, hp, hp1⟩ := rnode_at hs hN e2 (held_le hs a)
    have hno := (nod_at hs e2 (held_le hs a)).2.2.2
    rw [← hp1] at hR hno
    obtain ⟨o0, o1⟩ := (has_iff s a).1 e1
    have hN1 : N.length = s.nodes.length := by rw [← hN]; simp
    have hle := held_le hs a
    obtain ⟨G, hA, _, _, hkc⟩ := r_row h
    obtain ⟨GB, off, hB, hBl, _, _, _⟩ := r_hs h (i := a.toNat) (by omega)
    have fc := fun (X : World) (l : List Pr) (hX : SepO W oo X (rparts g s.largest k s.hs N ++ l)) => r_cells hX
    have fh := fun (X : World) (l : List Pr) (hX : SepO W oo X (rparts g s.largest k s.hs N ++ l)) => r_held hX e1 hB
    have fn := fun (X : World) (l : List Pr) (hX : SepO W oo X (rparts g s.largest k s.hs N ++ l)) => r_node hX.first e2 hp hA
    rw [hA, hB] at fc
    have c0 := fun o o' => (fc _ _ (h2 o o')).1
    have c1 := fun o o' => (fc _ _ (h2 o o')).2.1
    have c2 := fun o o' => fh _ _ (h2 o o')
    have c3 := fun o o' => (fn _ _ (h2 o o')).1
    have c4 := fun o o' => (fn _ _ (h2 o o')).2
    have d0 := fun o o' o'' => (fc _ _ ((h2 o o').alloc o'')).1
    have d1 := fun o o' o'' => (fc _ _ ((h2 o o').alloc o'')).2.1
    have d2 := fun o o' o'' => fh _ _ ((h2 o o').alloc o'')
    have d3 := fun o o' o'' => (fn _ _ ((h2 o o').alloc o'')).1
    have d4 := fun o o' o'' => (fn _ _ ((h2 o o').alloc o'')).2
    cases ei : inL b p.1.scal.length
    · rw [ei] at hR
      simp at hR
      have HR := Lib.hid hR
      unfold inL at ei
      generalize p.1.scal.length = M at *
      generalize hy : held s a = Y at *
      clear fc fh fn h hN h2 e1 e2 e3 hp hp1 hy hR
      by_cases n0 : 0 ≤ b
      · have n1 : ¬ b < M := by intro h; simp [n0, h] at ei
        clear ei
        go_enter Try.func12, Try.ntmps12
        go_wp2_with fail
        refine (HW.out _ _).mono ?_
        rintro e w1 ⟨rfl, rfl⟩
        rw [HE.out]
        go_wp2_with fail
        go_region
        all_goals
          go_wp2_with fail
          refine bodyPost_ret (v := .agg #[.int .i64 5, .bool false, .int .i64 0, .int .u64 0]) (by simp [results, Try.results12, go_sem]) rfl ⟨?_, ?_⟩
          · rw [← HR.out]; rfl
          · first | exact ((Keep.refl _ _).alloc _).alloc _ | exact (((Keep.refl _ _).alloc _).alloc _).drew | exact (((Keep.refl _ _).alloc _).alloc _).drewN _ | exact (((Keep.refl _ _).alloc _).alloc _).alloc _ | exact ((((Keep.refl _ _).alloc _).alloc _).alloc _).drew | exact ((((Keep.refl _ _).alloc _).alloc _).alloc _).drewN _ | exact ((((Keep.refl _ _).alloc _).alloc _).alloc _).drew.drew
      · clear ei
        go_enter Try.func12, Try.ntmps12
        go_wp2_with fail
        refine (HW.out _ _).mono ?_
        rintro e w1 ⟨rfl, rfl⟩
        rw [HE.out]
        go_wp2_with fail
        go_region
        all_goals
          go_wp2_with fail
          refine bodyPost_ret (v := .agg #[.int .i64 5, .bool false, .int .i64 0, .int .u64 0]) (by simp [results, Try.results12, go_sem]) rfl ⟨?_, ?_⟩
          · rw [← HR.out]; rfl
          · first | exact ((Keep.refl _ _).alloc _).alloc _ | exact (((Keep.refl _ _).alloc _).alloc _).drew | exact (((Keep.refl _ _).alloc _).alloc _).drewN _ | exact (((Keep.refl _ _).alloc _).alloc _).alloc _ | exact ((((Keep.refl _ _).alloc _).alloc _).alloc _).drew | exact ((((Keep.refl _ _).alloc _).alloc _).alloc _).drewN _ | exact ((((Keep.refl _ _).alloc _).alloc _).alloc _).drew.drew
    · rw [ei] at hR
      simp at hR
      obtain ⟨n0, n1⟩ := (inL_iff _ _).1 ei
      have fr := fun o o' o'' => (r_scal ((h2 o o').alloc o'').first hp).cell b.toNat
      simp only [wds_get (show b.toNat < p.1.scal.length by omega)] at fr
      generalize p.1.scal[b.toNat]?.getD 0 = y1 at *
      have HR := Lib.hid hR
      generalize p.1.scal.length = M at *
      generalize hy : held s a = Y at *
      clear fc fh fn h hN h2 e1 e2 e3 hp hp1 hy hR ei
      go_enter Try.func12, Try.ntmps12
      go_wp2_with fail
      refine (HW.out _ _).mono ?_
      rintro e w1 ⟨rfl, rfl⟩
      rw [HE.out]
      go_wp2_with fail
      go_region
      all_goals
        go_wp2_with fail
        refine bodyPost_ret (v := .agg #[.int .i64 0, .bool false, .int .i64 0, .int .u64 y1]) (by simp [results, Try.results12, go_sem]) rfl ⟨?_, ?_⟩
        · rw [← HR.out]; rfl
        · first | exact ((Keep.refl _ _).alloc _).alloc _ | exact (((Keep.refl _ _).alloc _).alloc _).drew | exact (((Keep.refl _ _).alloc _).alloc _).drewN _ | exact (((Keep.refl _ _).alloc _).alloc _).alloc _ | exact ((((Keep.refl _ _).alloc _).alloc _).alloc _).drew | exact ((((Keep.refl _ _).alloc _).alloc _).alloc _).drewN _ | exact ((((Keep.refl _ _).alloc _).alloc _).alloc _).drew.drew
set_option maxRecDepth 20000 in
set_option maxHeartbeats 4000000 in
theorem do_shape (a b c v : Int) (h : SepO W oo w (rparts g s.largest k s.hs N)) (hs : s.ok) (hN : N.map (·.1) = s.nodes) :
    Calls Try.prog 12 #[pt g, stp ⟨10, a, b, c, v⟩] w fun e w' => e = .returned (.agg (gshape s a).cells) ∧ Keep (fun _ => False) w w' := by
  obtain ⟨R, hR⟩ : ∃ R, (gshape s a).cells = R := ⟨_, rfl⟩
  rw [hR]
  have hl := hs.hlen
  have h2 := fun o o' => (show SepO W oo ((w.alloc o).alloc o') (rparts g s.largest k s.hs N ++ []) by rw [List.append_nil]; exact (h.alloc o).alloc o')
  unfold gshape at hR
  have hw := fun o o' => wrong_r a (h2 o o') hs
  have HW := Lib.hid hw
  clear hw
  have bad : ∀ E : Int, E ≠ 0 → wrong s a = E → Calls Try.prog 12 #[pt g, stp ⟨10, a, b, c, v⟩] w fun e w' => e = .returned (.agg R) ∧ Keep (fun _ => False) w w' := by
    intro E hE0 hE
    rw [hE, if_neg hE0] at hR
    have HR := Lib.hid hR
    have hb : (E != 0) = true := by simpa using hE0
    have HE := Lib.hid hE
    clear h hN h2 hE hE0 hR
    go_enter Try.func12, Try.ntmps12
    go_wp2_with fail
    refine (HW.out _ _).mono ?_
    rintro e w1 ⟨rfl, rfl⟩
    rw [HE.out]
    go_wp2_with fail
    refine bodyPost_ret (v := .agg #[.int .i64 E, .bool false, .int .i64 0, .int .u64 0]) (by simp [results, Try.results12, go_sem]) rfl ⟨?_, ?_⟩
    · rw [← HR.out]; rfl
    · first | exact ((Keep.refl _ _).alloc _).alloc _ | exact (((Keep.refl _ _).alloc _).alloc _).drew | exact (((Keep.refl _ _).alloc _).alloc _).drewN _ | exact (((Keep.refl _ _).alloc _).alloc _).alloc _ | exact ((((Keep.refl _ _).alloc _).alloc _).alloc _).drew | exact ((((Keep.refl _ _).alloc _).alloc _).alloc _).drewN _ | exact ((((Keep.refl _ _).alloc _).alloc _).alloc _).drew.drew
  rcases wrong_cases s a with ⟨e1, e2⟩ | ⟨e1, e2, e3⟩ | ⟨e1, e2, e3⟩
  · exact bad 3 (by decide) e2
  · exact bad 4 (by decide) e3
  · clear bad
    rw [e3] at hR
    simp at hR
    have HE := Lib.hid e3
    obtain ⟨p, hp, hp1⟩ := rnode_at hs hN e2 (held_le hs a)
    have hno := (nod_at hs e2 (held_le hs a)).2.2.2
    rw [← hp1] at hR hno
    obtain ⟨o0, o1⟩ := (has_iff s a).1 e1
    have hN1 : N.length = s.nodes.length := by rw [← hN]; simp
    have hle := held_le hs a
    obtain ⟨G, hA, _, _, hkc⟩ := r_row h
    obtain ⟨GB, off, hB, hBl, _, _, _⟩ := r_hs h (i := a.toNat) (by omega)
    have fc := fun (X : World) (l : List Pr) (hX : SepO W oo X (rparts g s.largest k s.hs N ++ l)) => r_cells hX
    have fh := fun (X : World) (l : List Pr) (hX : SepO W oo X (rparts g s.largest k s.hs N ++ l)) => r_held hX e1 hB
    have fn := fun (X : World) (l : List Pr) (hX : SepO W oo X (rparts g s.largest k s.hs N ++ l)) => r_node hX.first e2 hp hA
    rw [hA, hB] at fc
    have c0 := fun o o' => (fc _ _ (h2 o o')).1
    have c1 := fun o o' => (fc _ _ (h2 o o')).2.1
    have c2 := fun o o' => fh _ _ (h2 o o')
    have c3 := fun o o' => (fn _ _ (h2 o o')).1
    have c4 := fun o o' => (fn _ _ (h2 o o')).2
    have d0 := fun o o' o'' => (fc _ _ ((h2 o o').alloc o'')).1
    have d1 := fun o o' o'' => (fc _ _ ((h2 o o').alloc o'')).2.1
    have d2 := fun o o' o'' => fh _ _ ((h2 o o').alloc o'')
    have d3 := fun o o' o'' => (fn _ _ ((h2 o o').alloc o'')).1
    have d4 := fun o o' o'' => (fn _ _ ((h2 o o').alloc o'')).2
    have HR := Lib.hid hR
    have cv : IntKind.u64.wrap (p.1.scal.length : Int) = p.1.scal.length := by rw [IntKind.wrap_u64]; omega
    generalize p.1.refs.length = M1 at *
    generalize p.1.scal.length = M at *
    generalize hy : held s a = Y at *
    clear fc fh fn h hN h2 e1 e2 e3 hp hp1 hy hR
    go_enter Try.func12, Try.ntmps12
    go_wp2_with fail
    refine (HW.out _ _).mono ?_
    rintro e w1 ⟨rfl, rfl⟩
    rw [HE.out]
    go_wp2_with fail
    go_region
    all_goals
      go_wp2_with fail
      refine bodyPost_ret (v := .agg #[.int .i64 0, .bool false, .int .i64 M1, .int .u64 M]) (by simp [results, Try.results12, go_sem]) rfl ⟨?_, ?_⟩
      · rw [← HR.out]; rfl
      · first | exact ((Keep.refl _ _).alloc _).alloc _ | exact (((Keep.refl _ _).alloc _).alloc _).drew | exact (((Keep.refl _ _).alloc _).alloc _).drewN _ | exact (((Keep.refl _ _).alloc _).alloc _).alloc _ | exact ((((Keep.refl _ _).alloc _).alloc _).alloc _).drew | exact ((((Keep.refl _ _).alloc _).alloc _).alloc _).drewN _ | exact ((((Keep.refl _ _).alloc _).alloc _).alloc _).drew.drew
set_option maxRecDepth 20000 in
set_option maxHeartbeats 4000000 in
theorem do_same (a b c v : Int) (h : SepO W oo w (rparts g s.largest k s.hs N)) (hs : s.ok) (hN : N.map (·.1) = s.nodes) :
    Calls Try.prog 12 #[pt g, stp ⟨8, a, b, c, v⟩] w fun e w' => e = .returned (.agg (gsame s a b).cells) ∧ Keep (fun _ => False) w w' := by
  obtain ⟨R, hR⟩ : ∃ R, (gsame s a b).cells = R := ⟨_, rfl⟩
  rw [hR]
  have hl := hs.hlen
  have h2 := fun o o' => (show SepO W oo ((w.alloc o).alloc o') (rparts g s.largest k s.hs N ++ []) by rw [List.append_nil]; exact (h.alloc o).alloc o')
  unfold gsame at hR
  have hw := fun o o' => has_r a (h2 o o') hs
  have hw2 := fun o o' => has_r b (h2 o o') hs
  have HW := Lib.hid hw
  have HW2 := Lib.hid hw2
  clear hw hw2
  cases et : has s a
  · rw [et] at hR
    have HR := Lib.hid hR
    have HT := Lib.hid et
    clear h hN h2 et hR
    go_enter Try.func12, Try.ntmps12
    go_wp2_with fail
    refine (HW.out _ _).mono ?_
    rintro e w1 ⟨rfl, rfl⟩
    rw [HT.out]
    go_wp2_with fail
    refine bodyPost_ret (v := .agg #[.int .i64 3, .bool false, .int .i64 0, .int .u64 0]) (by simp [results, Try.results12, go_sem]) rfl ⟨?_, ?_⟩
    · rw [← HR.out]; rfl
    · first | exact ((Keep.refl _ _).alloc _).alloc _ | exact (((Keep.refl _ _).alloc _).alloc _).drew | exact (((Keep.refl _ _).alloc _).alloc _).drewN _ | exact (((Keep.refl _ _).alloc _).alloc _).alloc _ | exact ((((Keep.refl _ _).alloc _).alloc _).alloc _).drew | exact ((((Keep.refl _ _).alloc _).alloc _).alloc _).drewN _ | exact ((((Keep.refl _ _).alloc _).alloc _).alloc _).drew.drew
  · cases eb : has s b
    · rw [et, eb] at hR
      have HR := Lib.hid hR
      have HT := Lib.hid et
      have HT2 := Lib.hid eb
      clear h hN h2 et eb hR
      go_enter Try.func12, Try.ntmps12
      go_wp2_with fail
      refine (HW.out _ _).mono ?_
      rintro e w1 ⟨rfl, rfl⟩
      rw [HT.out]
      go_wp2_with fail
      refine (HW2.out _ _).mono ?_
      rintro e w1 ⟨rfl, rfl⟩
      rw [HT2.out]
      go_wp2_with fail
      refine bodyPost_ret (v := .agg #[.int .i64 3, .bool false, .int .i64 0, .int .u64 0]) (by simp [results, Try.results12, go_sem]) rfl ⟨?_, ?_⟩
      · rw [← HR.out]; rfl
      · first | exact ((Keep.refl _ _).alloc _).alloc _ | exact (((Keep.refl _ _).alloc _).alloc _).drew | exact (((Keep.refl _ _).alloc _).alloc _).drewN _ | exact (((Keep.refl _ _).alloc _).alloc _).alloc _ | exact ((((Keep.refl _ _).alloc _).alloc _).alloc _).drew | exact ((((Keep.refl _ _).alloc _).alloc _).alloc _).drewN _ | exact ((((Keep.refl _ _).alloc _).alloc _).alloc _).drew.drew
    · rw [et, eb] at hR
      simp at hR
      have HT := Lib.hid et
      have HT2 := Lib.hid eb
      obtain ⟨t0, t1⟩ := (has_iff s a).1 et
      obtain ⟨u0, u1⟩ := (has_iff s b).1 eb
      obtain ⟨GB, off, hB, hBl, _, _, _⟩ := r_hs h (i := a.toNat) (by omega)
      have fc := fun o o' => (r_cells (h2 o o')).2.1
      rw [hB] at fc
      have ca := fun o o' => r_held (h2 o o') et hB
      have cb := fun o o' => r_held (h2 o o') eb hB
      have hd : decide (held s a = held s b) = (((held s a : Nat) : Int) == ((held s b : Nat) : Int)) := by rw [Bool.eq_iff_iff]; simp; omega
      rw [hd] at hR
      generalize ((held s a : Nat) : Int) = Y1 at *
      generalize ((held s b : Nat) : Int) = Y2 at *
      have HR := Lib.hid hR
      clear h hN h2 et eb hR hB hd
      go_enter Try.func12, Try.ntmps12
      go_wp2_with fail
      refine (HW.out _ _).mono ?_
      rintro e w1 ⟨rfl, rfl⟩
      rw [HT.out]
      go_wp2_with fail
      refine (HW2.out _ _).mono ?_
      rintro e w1 ⟨rfl, rfl⟩
      rw [HT2.out]
      go_wp2_with fail
      go_region
      all_goals
        go_wp2_with fail
        refine bodyPost_ret (v := .agg #[.int .i64 0, .bool (Y1 == Y2), .int .i64 0, .int .u64 0]) (by simp [results, Try.results12, go_sem]) rfl ⟨?_, ?_⟩
        · rw [← HR.out]; rfl
        · first | exact ((Keep.refl _ _).alloc _).alloc _ | exact (((Keep.refl _ _).alloc _).alloc _).drew | exact (((Keep.refl _ _).alloc _).alloc _).drewN _ | exact (((Keep.refl _ _).alloc _).alloc _).alloc _ | exact ((((Keep.refl _ _).alloc _).alloc _).alloc _).drew | exact ((((Keep.refl _ _).alloc _).alloc _).alloc _).drewN _ | exact ((((Keep.refl _ _).alloc _).alloc _).alloc _).drew.drew
set_option maxRecDepth 20000 in
set_option maxHeartbeats 4000000 in
theorem do_nil (a b c v : Int) (h : SepO W oo w (rparts g s.largest k s.hs N)) (hs : s.ok) (hN : N.map (·.1) = s.nodes) :
    Calls Try.prog 12 #[pt g, stp ⟨9, a, b, c, v⟩] w fun e w' => e = .returned (.agg (gnil s a).cells) ∧ Keep (fun _ => False) w w' := by
  obtain ⟨R, hR⟩ : ∃ R, (gnil s a).cells = R := ⟨_, rfl⟩
  rw [hR]
  have hl := hs.hlen
  have h2 := fun o o' => (show SepO W oo ((w.alloc o).alloc o') (rparts g s.largest k s.hs N ++ []) by rw [List.append_nil]; exact (h.alloc o).alloc o')
  unfold gnil at hR
  have hw := fun o o' => has_r a (h2 o o') hs
  have HW := Lib.hid hw
  clear hw
  cases et : has s a
  · rw [et] at hR
    have HR := Lib.hid hR
    have HT := Lib.hid et
    clear h hN h2 et hR
    go_enter Try.func12, Try.ntmps12
    go_wp2_with fail
    refine (HW.out _ _).mono ?_
    rintro e w1 ⟨rfl, rfl⟩
    rw [HT.out]
    go_wp2_with fail
    refine bodyPost_ret (v := .agg #[.int .i64 3, .bool false, .int .i64 0, .int .u64 0]) (by simp [results, Try.results12, go_sem]) rfl ⟨?_, ?_⟩
    · rw [← HR.out]; rfl
    · first | exact ((Keep.refl _ _).alloc _).alloc _ | exact (((Keep.refl _ _).alloc _).alloc _).drew | exact (((Keep.refl _ _).alloc _).alloc _).drewN _ | exact (((Keep.refl _ _).alloc _).alloc _).alloc _ | exact ((((Keep.refl _ _).alloc _).alloc _).alloc _).drew | exact ((((Keep.refl _ _).alloc _).alloc _).alloc _).drewN _ | exact ((((Keep.refl _ _).alloc _).alloc _).alloc _).drew.drew
  · rw [et] at hR
    simp at hR
    have HT := Lib.hid et
    obtain ⟨t0, t1⟩ := (has_iff s a).1 et
    obtain ⟨GB, off, hB, hBl, _, _, _⟩ := r_hs h (i := a.toNat) (by omega)
    have fc := fun o o' => (r_cells (h2 o o')).2.1
    rw [hB] at fc
    have ca := fun o o' => r_held (h2 o o') et hB
    have hd : decide (held s a = 0) = (((held s a : Nat) : Int) == 0) := by rw [Bool.eq_iff_iff]; simp
    rw [hd] at hR
    generalize ((held s a : Nat) : Int) = Y1 at *
    have HR := Lib.hid hR
    clear h hN h2 et hR hB hd
    go_enter Try.func12, Try.ntmps12
    go_wp2_with fail
    refine (HW.out _ _).mono ?_
    rintro e w1 ⟨rfl, rfl⟩
    rw [HT.out]
    go_wp2_with fail
    go_region
    all_goals
      go_wp2_with fail
      refine bodyPost_ret (v := .agg #[.int .i64 0, .bool (Y1 == 0), .int .i64 0, .int .u64 0]) (by simp [results, Try.results12, go_sem]) rfl ⟨?_, ?_⟩
      · rw [← HR.out]; rfl
      · first | exact ((Keep.refl _ _).alloc _).alloc _ | exact (((Keep.refl _ _).alloc _).alloc _).drew | exact (((Keep.refl _ _).alloc _).alloc _).drewN _ | exact (((Keep.refl _ _).alloc _).alloc _).alloc _ | exact ((((Keep.refl _ _).alloc _).alloc _).alloc _).drew | exact ((((Keep.refl _ _).alloc _).alloc _).alloc _).drewN _ | exact ((((Keep.refl _ _).alloc _).alloc _).alloc _).drew.drew
end
end Go.Proofs.Ytoldhaomacnigaa.Rg
