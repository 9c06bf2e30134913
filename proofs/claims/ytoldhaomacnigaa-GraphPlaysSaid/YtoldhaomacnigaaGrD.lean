/- Contracts of package graph: asks. No condition. -/
import Derived.Test.YtoldhaomacnigaaGrC
import Derived.LaidEqlPtr
set_option linter.unusedVariables false
set_option linter.unusedSimpArgs false
namespace Go.Proofs.Ytoldhaomacnigaa.Gr
open Go.RowKit Go.Proofs.Ytoldhaomacnigaa.W
def GA.cells (a : GA) : Array Value := #[.int .i64 a.e, .bool a.yes, .int .i64 a.n, .int .u64 a.v]
abbrev stp (x : A5) : Value := .agg #[.int .i64 x.kind, .int .i64 x.a, .int .i64 x.b, .int .i64 x.c, .int .u64 x.v]
section
variable {W w : World} {oo : Nat → Prop} {g H : Nat} {s : GS} {N : NL}
def gasks (s : GS) (x : A5) : GA :=
  if x.kind = 4 then gread s x.a x.b else if x.kind = 8 then gsame s x.a x.b else if x.kind = 9 then gnil s x.a else if x.kind = 10 then gshape s x.a else err 1

set_option maxHeartbeats 1000000 in
theorem asks_read (a b c v : Int) (h : SepO W oo w (gparts g H s.largest s.hs N)) (hs : s.ok) (hN : N.map (·.1) = s.nodes) :
    Calls Try.prog 25 #[pt g, stp ⟨4, a, b, c, v⟩] w fun e w' => e = .returned (.agg (gread s a b).cells) ∧ Keep (fun _ => False) w w' := by
  obtain ⟨R, hR⟩ : ∃ R, (gread s a b).cells = R := ⟨_, rfl⟩
  rw [hR]
  have H2 := Lib.hid (fun o o' => (h.alloc o).alloc o')
  unfold gread at hR
  have bad : ∀ E : Int, E ≠ 0 → E = (if wrong s a = 0 then 5 else wrong s a) → (wrong s a ≠ 0 ∨ inL b (nod s (held s a)).scal.length = false) → (err E).cells = R → Calls Try.prog 25 #[pt g, stp ⟨4, a, b, c, v⟩] w fun e w' => e = .returned (.agg R) ∧ Keep (fun _ => False) w w' := by
    intro E h0 hE hb hR
    have HR := Lib.hid hR
    have HC := Lib.hid (fun o o' => scalar_bad a b E hE hb ((h.alloc o).alloc o') hs hN)
    have hb : (E != 0) = true := by simpa using h0
    clear h0 hE hR h hN
    go_enter Try.func25, Try.ntmps25
    go_wp2_with fail
    refine (HC.out _ _).mono ?_
    rintro e w1 ⟨rfl, rfl⟩
    go_wp2_with fail
    refine bodyPost_ret (v := .agg #[.int .i64 E, .bool false, .int .i64 0, .int .u64 0]) (by simp [results, Try.results25, go_sem]) rfl ⟨?_, ?_⟩
    · rw [← HR.out]; rfl
    · first | exact ((Keep.refl _ _).alloc _).alloc _ | exact (((Keep.refl _ _).alloc _).alloc _).drew | exact (((Keep.refl _ _).alloc _).alloc _).drewN _
  rcases wrong_cases s a with ⟨e1, e2⟩ | ⟨e1, e2, e3⟩ | ⟨e1, e2, e3⟩
  · exact bad 3 (by decide) (by rw [e2]; rfl) (.inl (by rw [e2]; decide)) (by rw [← hR, e2]; rfl)
  · exact bad 4 (by decide) (by rw [e3]; rfl) (.inl (by rw [e3]; decide)) (by rw [← hR, e3]; rfl)
  · cases ei : inL b (nod s (held s a)).scal.length
    · exact bad 5 (by decide) (by rw [e3]; rfl) (.inr ei) (by rw [← hR, e3, ei]; rfl)
    · clear bad
      rw [e3, ei] at hR
      simp at hR
      have HR := Lib.hid hR
      obtain ⟨p, hp, hp1, hpv⟩ := node_at hs hN e2 (held_le hs a)
      rw [← hp1] at ei
      obtain ⟨b0, b1⟩ := (inL_iff _ _).1 ei
      have HC := Lib.hid (fun o o' => scalar_ok a b e3 hp ei ((h.alloc o).alloc o') hs hN)
      have hc := fun o o' => (g_scal ((h.alloc o).alloc o') hp).cell b.toNat
      simp only [wds_get (show b.toNat < p.1.scal.length by omega)] at hc
      rw [hp1] at hc
      clear e1 e2 e3 ei hp hpv b1 hR h hN
      go_enter Try.func25, Try.ntmps25
      go_wp2_with fail
      refine (HC.out _ _).mono ?_
      rintro e w1 ⟨rfl, rfl⟩
      go_wp2_with fail
      refine bodyPost_ret (v := .agg #[.int .i64 0, .bool false, .int .i64 0, .int .u64 ((nod s (held s a)).scal[b.toNat]?.getD 0)]) (by simp [results, Try.results25, go_sem]) rfl ⟨?_, ?_⟩
      · rw [← HR.out]; rfl
      · first | exact ((Keep.refl _ _).alloc _).alloc _ | exact (((Keep.refl _ _).alloc _).alloc _).drew | exact (((Keep.refl _ _).alloc _).alloc _).drewN _
set_option maxHeartbeats 1000000 in
theorem asks_same (a b c v : Int) (h : SepO W oo w (gparts g H s.largest s.hs N)) (hs : s.ok) (hN : N.map (·.1) = s.nodes) :
    Calls Try.prog 25 #[pt g, stp ⟨8, a, b, c, v⟩] w fun e w' => e = .returned (.agg (gsame s a b).cells) ∧ Keep (fun _ => False) w w' := by
  obtain ⟨R, hR⟩ : ∃ R, (gsame s a b).cells = R := ⟨_, rfl⟩
  rw [hR]
  have H2 := Lib.hid (fun o o' => (h.alloc o).alloc o')
  unfold gsame at hR
  cases ea : has s a
  · rw [ea] at hR
    have HR := Lib.hid hR
    have HA := Lib.hid (fun o o' => has_in a ((h.alloc o).alloc o') hs)
    have EA := Lib.hid ea
    clear hR h hN ea
    go_enter Try.func25, Try.ntmps25
    go_wp2_with fail
    refine (HA.out _ _).mono ?_
    rintro e w1 ⟨rfl, rfl⟩
    rw [EA.out]
    go_wp2_with fail
    refine bodyPost_ret (v := .agg #[.int .i64 3, .bool false, .int .i64 0, .int .u64 0]) (by simp [results, Try.results25, go_sem]) rfl ⟨?_, ?_⟩
    · rw [← HR.out]; rfl
    · first | exact ((Keep.refl _ _).alloc _).alloc _ | exact (((Keep.refl _ _).alloc _).alloc _).drew | exact (((Keep.refl _ _).alloc _).alloc _).drewN _
  · cases eb : has s b
    · rw [ea, eb] at hR
      have HR := Lib.hid hR
      have HA := Lib.hid (fun o o' => has_in a ((h.alloc o).alloc o') hs)
      have HB := Lib.hid (fun o o' => has_in b ((h.alloc o).alloc o') hs)
      have EA := Lib.hid ea
      have EB := Lib.hid eb
      clear hR h hN ea eb
      go_enter Try.func25, Try.ntmps25
      go_wp2_with fail
      refine (HA.out _ _).mono ?_
      rintro e w1 ⟨rfl, rfl⟩
      rw [EA.out]
      go_wp2_with fail
      refine (HB.out _ _).mono ?_
      rintro e w1 ⟨rfl, rfl⟩
      rw [EB.out]
      go_wp2_with fail
      refine bodyPost_ret (v := .agg #[.int .i64 3, .bool false, .int .i64 0, .int .u64 0]) (by simp [results, Try.results25, go_sem]) rfl ⟨?_, ?_⟩
      · rw [← HR.out]; rfl
      · first | exact ((Keep.refl _ _).alloc _).alloc _ | exact (((Keep.refl _ _).alloc _).alloc _).drew | exact (((Keep.refl _ _).alloc _).alloc _).drewN _
    · rw [ea, eb] at hR
      simp at hR
      have HR := Lib.hid hR
      have HA := Lib.hid (fun o o' => has_in a ((h.alloc o).alloc o') hs)
      have HB := Lib.hid (fun o o' => has_in b ((h.alloc o).alloc o') hs)
      have EA := Lib.hid ea
      have EB := Lib.hid eb
      obtain ⟨a0, a1⟩ := (has_iff s a).1 ea
      obtain ⟨b0, b1⟩ := (has_iff s b).1 eb
      have hN1 : N.length = s.nodes.length := by rw [← hN]; simp
      have hl := hs.hlen
      have c0 := fun o o' => (g_blk ((h.alloc o).alloc o')).cell 0
      simp at c0
      have ca := fun o o' => cell_h ((h.alloc o).alloc o') ea
      have cb := fun o o' => cell_h ((h.alloc o).alloc o') eb
      obtain ⟨i1, i2, i3, i4⟩ : ∃ i, Try.prog.info? 67 = some i ∧ i.size ≠ 0 ∧ True := by
        have h9 : (Try.prog.info? 67).map (fun i => i.size) = some 2 := by kernel_rfl
        cases h8 : Try.prog.info? 67 with
        | none => rw [h8] at h9; cases h9
        | some i => rw [h8] at h9; simp at h9; exact ⟨i, rfl, by omega, trivial⟩
      have heq : ∀ X, SepO W oo X (gparts g H s.largest s.hs N) → (binOp .eql 59 (pv N (held s a)) (pv N (held s b))).run Try.prog X = .ok (.bool (decide (held s a = held s b))) X := by
        intro X hX
        have h9 := run_peql (P := Try.prog) Try.underlying59 i2 i3 (bk_pok hX (held s a)) (bk_pok hX (held s b))
        have h8 : decide (bk N (held s a) = bk N (held s b)) = decide (held s a = held s b) := by
          by_cases e : held s a = held s b
          · rw [e]; simp
          · have : bk N (held s a) ≠ bk N (held s b) := fun e' => e (bk_inj hX (by rw [hN1]; exact held_le hs a) (by rw [hN1]; exact held_le hs b) e')
            simp [e, this]
        rw [h8] at h9
        exact h9
      have heq2 := fun o o' => heq _ ((h.alloc o).alloc o')
      have heq3 := fun o o' => heq _ ((h.alloc o).alloc o').drew
      obtain ⟨q1, hq1⟩ := pv_ptr N (held s a)
      obtain ⟨q2, hq2⟩ := pv_ptr N (held s b)
      simp only [hq1] at ca heq2 heq3
      simp only [hq2] at cb heq2 heq3
      obtain ⟨Q, hQ⟩ : ∃ Q, decide (held s a = held s b) = Q := ⟨_, rfl⟩
      rw [hQ] at heq2 heq3
      have HQ := Lib.hid hQ
      clear i2 i3 hq1 hq2 heq hR h hN ea eb hN1 hQ
      go_enter Try.func25, Try.ntmps25
      go_wp2_with fail
      refine (HA.out _ _).mono ?_
      rintro e w1 ⟨rfl, rfl⟩
      rw [EA.out]
      go_wp2_with fail
      refine (HB.out _ _).mono ?_
      rintro e w1 ⟨rfl, rfl⟩
      rw [EB.out]
      go_wp2_with fail
      go_region
      go_wp2_with fail
      refine bodyPost_ret (v := .agg #[.int .i64 0, .bool Q, .int .i64 0, .int .u64 0]) (by simp [results, Try.results25, go_sem]) rfl ⟨?_, ?_⟩
      · rw [← HR.out, ← HQ.out]; rfl
      · first | exact ((Keep.refl _ _).alloc _).alloc _ | exact (((Keep.refl _ _).alloc _).alloc _).drew | exact (((Keep.refl _ _).alloc _).alloc _).drewN _
set_option maxHeartbeats 1000000 in
theorem asks_nil (a b c v : Int) (h : SepO W oo w (gparts g H s.largest s.hs N)) (hs : s.ok) (hN : N.map (·.1) = s.nodes) :
    Calls Try.prog 25 #[pt g, stp ⟨9, a, b, c, v⟩] w fun e w' => e = .returned (.agg (gnil s a).cells) ∧ Keep (fun _ => False) w w' := by
  obtain ⟨R, hR⟩ : ∃ R, (gnil s a).cells = R := ⟨_, rfl⟩
  rw [hR]
  have H2 := Lib.hid (fun o o' => (h.alloc o).alloc o')
  unfold gnil at hR
  cases ea : has s a
  · rw [ea] at hR
    have HR := Lib.hid hR
    have HA := Lib.hid (fun o o' => has_in a ((h.alloc o).alloc o') hs)
    have EA := Lib.hid ea
    clear hR h hN ea
    go_enter Try.func25, Try.ntmps25
    go_wp2_with fail
    refine (HA.out _ _).mono ?_
    rintro e w1 ⟨rfl, rfl⟩
    rw [EA.out]
    go_wp2_with fail
    refine bodyPost_ret (v := .agg #[.int .i64 3, .bool false, .int .i64 0, .int .u64 0]) (by simp [results, Try.results25, go_sem]) rfl ⟨?_, ?_⟩
    · rw [← HR.out]; rfl
    · first | exact ((Keep.refl _ _).alloc _).alloc _ | exact (((Keep.refl _ _).alloc _).alloc _).drew | exact (((Keep.refl _ _).alloc _).alloc _).drewN _
  · rw [ea] at hR
    simp at hR
    by_cases e0 : held s a = 0
    · have HR := Lib.hid hR
      have E0 := Lib.hid e0
      have HA := Lib.hid (fun o o' => has_in a ((h.alloc o).alloc o') hs)
      have EA := Lib.hid ea
      obtain ⟨a0, a1⟩ := (has_iff s a).1 ea
      have hl := hs.hlen
      have c0 := fun o o' => (g_blk ((h.alloc o).alloc o')).cell 0
      simp at c0
      have ca := fun o o' => cell_h ((h.alloc o).alloc o') ea
      simp only [e0, show pv N 0 = .pointer none from rfl] at ca
      clear hR h hN ea e0
      go_enter Try.func25, Try.ntmps25
      go_wp2_with fail
      refine (HA.out _ _).mono ?_
      rintro e w1 ⟨rfl, rfl⟩
      rw [EA.out]
      go_wp2_with fail
      go_region
      go_wp2_with fail
      refine bodyPost_ret (v := .agg #[.int .i64 0, .bool true, .int .i64 0, .int .u64 0]) (by simp [results, Try.results25, go_sem]) rfl ⟨?_, ?_⟩
      · rw [← HR.out]; simp [E0.out]; rfl
      · first | exact ((Keep.refl _ _).alloc _).alloc _ | exact (((Keep.refl _ _).alloc _).alloc _).drew | exact (((Keep.refl _ _).alloc _).alloc _).drewN _
    · have HR := Lib.hid hR
      have E0 := Lib.hid e0
      have HA := Lib.hid (fun o o' => has_in a ((h.alloc o).alloc o') hs)
      have EA := Lib.hid ea
      obtain ⟨a0, a1⟩ := (has_iff s a).1 ea
      have hl := hs.hlen
      have c0 := fun o o' => (g_blk ((h.alloc o).alloc o')).cell 0
      simp at c0
      have ca := fun o o' => cell_h ((h.alloc o).alloc o') ea
      obtain ⟨p, hp, hp1, hpv⟩ := node_at hs hN e0 (held_le hs a)
      simp only [hpv] at ca
      clear hp hp1 hpv
      clear hR h hN ea e0
      go_enter Try.func25, Try.ntmps25
      go_wp2_with fail
      refine (HA.out _ _).mono ?_
      rintro e w1 ⟨rfl, rfl⟩
      rw [EA.out]
      go_wp2_with fail
      go_region
      go_wp2_with fail
      refine bodyPost_ret (v := .agg #[.int .i64 0, .bool false, .int .i64 0, .int .u64 0]) (by simp [results, Try.results25, go_sem]) rfl ⟨?_, ?_⟩
      · rw [← HR.out]; simp [E0.out]; rfl
      · first | exact ((Keep.refl _ _).alloc _).alloc _ | exact (((Keep.refl _ _).alloc _).alloc _).drew | exact (((Keep.refl _ _).alloc _).alloc _).drewN _
set_option maxHeartbeats 1000000 in
theorem asks_shape (a b c v : Int) (h : SepO W oo w (gparts g H s.largest s.hs N)) (hs : s.ok) (hN : N.map (·.1) = s.nodes) :
    Calls Try.prog 25 #[pt g, stp ⟨10, a, b, c, v⟩] w fun e w' => e = .returned (.agg (gshape s a).cells) ∧ Keep (fun _ => False) w w' := by
  obtain ⟨R, hR⟩ : ∃ R, (gshape s a).cells = R := ⟨_, rfl⟩
  rw [hR]
  have H2 := Lib.hid (fun o o' => (h.alloc o).alloc o')
  unfold gshape at hR
  have bad : ∀ E : Int, E ≠ 0 → wrong s a = E → Calls Try.prog 25 #[pt g, stp ⟨10, a, b, c, v⟩] w fun e w' => e = .returned (.agg R) ∧ Keep (fun _ => False) w w' := by
    intro E h0 hE
    have ho := fun o o' => object_in a ((h.alloc o).alloc o') hs hN
    rw [hE, if_neg h0] at hR
    simp only [hE, if_neg h0] at ho
    have HR := Lib.hid hR
    have HO := Lib.hid ho
    have hb : (E != 0) = true := by simpa using h0
    clear h0 hE hR h hN ho
    go_enter Try.func25, Try.ntmps25
    go_wp2_with fail
    refine (HO.out _ _).mono ?_
    rintro e w1 ⟨rfl, rfl⟩
    go_wp2_with fail
    refine bodyPost_ret (v := .agg #[.int .i64 E, .bool false, .int .i64 0, .int .u64 0]) (by simp [results, Try.results25, go_sem]) rfl ⟨?_, ?_⟩
    · rw [← HR.out]; rfl
    · first | exact ((Keep.refl _ _).alloc _).alloc _ | exact (((Keep.refl _ _).alloc _).alloc _).drew | exact (((Keep.refl _ _).alloc _).alloc _).drewN _
  rcases wrong_cases s a with ⟨e1, e2⟩ | ⟨e1, e2, e3⟩ | ⟨e1, e2, e3⟩
  · exact bad 3 (by decide) e2
  · exact bad 4 (by decide) e3
  · clear bad
    rw [e3] at hR
    simp at hR
    have HR := Lib.hid hR
    obtain ⟨p, hp, hp1, hpv⟩ := node_at hs hN e2 (held_le hs a)
    have ho := fun o o' => object_in a ((h.alloc o).alloc o') hs hN
    simp only [e3, if_true, hpv] at ho
    have HO := Lib.hid ho
    have hno := (nod_at hs e2 (held_le hs a)).2.2.2
    rw [← hp1] at hno
    have n0 := fun o o' => (g_node ((h.alloc o).alloc o') hp).cell 0
    have n1 := fun o o' => (g_node ((h.alloc o).alloc o') hp).cell 1
    simp at n0 n1
    rw [← hp1] at HR
    generalize p.1.refs.length = m1 at *
    generalize p.1.scal.length = m2 at *
    clear e1 e2 e3 hp hp1 hpv ho hR h hN
    have cv : IntKind.u64.wrap (m2 : Int) = m2 := by rw [IntKind.wrap_u64]; omega
    go_enter Try.func25, Try.ntmps25
    go_wp2_with fail
    refine (HO.out _ _).mono ?_
    rintro e w1 ⟨rfl, rfl⟩
    go_wp2_with fail
    go_region
    go_wp2_with fail
    refine bodyPost_ret (v := .agg #[.int .i64 0, .bool false, .int .i64 m1, .int .u64 m2]) (by simp [results, Try.results25, go_sem]) rfl ⟨?_, ?_⟩
    · rw [← HR.out]; rfl
    · first | exact ((Keep.refl _ _).alloc _).alloc _ | exact (((Keep.refl _ _).alloc _).alloc _).drew | exact (((Keep.refl _ _).alloc _).alloc _).drewN _
theorem asks_in (x : A5) (h : SepO W oo w (gparts g H s.largest s.hs N)) (hs : s.ok) (hN : N.map (·.1) = s.nodes) :
    Calls Try.prog 25 #[pt g, stp x] w fun e w' => e = .returned (.agg (gasks s x).cells) ∧ Keep (fun _ => False) w w' := by
  obtain ⟨k, a, b, c, v⟩ := x
  unfold gasks
  simp only []
  by_cases k4 : k = 4
  · subst k4
    exact asks_read a b c v h hs hN
  · by_cases k8 : k = 8
    · subst k8
      exact asks_same a b c v h hs hN
    · by_cases k9 : k = 9
      · subst k9
        exact asks_nil a b c v h hs hN
      · by_cases k10 : k = 10
        · subst k10
          exact asks_shape a b c v h hs hN
        · rw [if_neg k4, if_neg k8, if_neg k9, if_neg k10]
          have b4 : (k == 4) = false := by simpa using k4
          have b8 : (k == 8) = false := by simpa using k8
          have b9 : (k == 9) = false := by simpa using k9
          have b10 : (k == 10) = false := by simpa using k10
          clear h hN hs k4 k8 k9 k10
          go_enter Try.func25, Try.ntmps25
          go_wp2_with fail
          refine bodyPost_ret (v := .agg #[.int .i64 1, .bool false, .int .i64 0, .int .u64 0]) (by simp [results, Try.results25, go_sem]) rfl ⟨rfl, ?_⟩
          exact ((Keep.refl _ _).alloc _).alloc _
end
end Go.Proofs.Ytoldhaomacnigaa.Gr
