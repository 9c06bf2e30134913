/- Contracts of package graph: make. No condition. -/
import Derived.Test.YtoldhaomacnigaaGrB
set_option linter.unusedVariables false
set_option linter.unusedSimpArgs false
namespace Go.Proofs.Ytoldhaomacnigaa.Gr
open Go.RowKit Go.Proofs.Ytoldhaomacnigaa.W
theorem info_node : (Try.prog.info? 59).map (fun i => (i.zero, i.size, i.bytes)) = some (some (.pointer none), 1, 8) := by kernel_rfl
theorem info_word : (Try.prog.info? 28).map (fun i => (i.zero, i.size, i.bytes)) = some (some (.int .u64 0), 1, 8) := by kernel_rfl
theorem _root_.Go.Proofs.Ytoldhaomacnigaa.W.SepO.tail3 {W w : World} {oo : Nat → Prop} {l : List Pr} {a b c : Pr} (h : SepO W oo w (l ++ [a] ++ [b] ++ [c])) (σ : List Nat) (hd : σ.Nodup) : SepO W oo w (l ++ σ.map fun k => [a, b, c][k]?.getD emp) := by
  rw [List.append_assoc, List.append_assoc] at h
  exact h.tail_pick σ hd
section
variable {W w : World} {oo : Nat → Prop} {g H : Nat} {s : GS} {N : NL}
set_option maxHeartbeats 1000000 in
theorem make_in (x b c : Int) (h : SepO W oo w (gparts g H s.largest s.hs N)) (hs : s.ok) (hN : N.map (·.1) = s.nodes) :
    Calls Try.prog 19 #[pt g, .int .i64 x, .int .i64 b, .int .i64 c] w fun e w' => e = .returned (.int .i64 (gmake s x b c).1) ∧ GOut W oo g H (gmake s x b c).2 w' := by
  obtain ⟨⟨R1, R2⟩, hR⟩ : ∃ R, gmake s x b c = R := ⟨_, rfl⟩
  rw [hR]
  simp only []
  unfold gmake at hR
  have c0 := (g_blk h).cell 0
  have c1 := (g_blk h).cell 1
  simp at c0 c1
  have hl := hs.hlen
  have hlr := hs.lar
  have hh := has_in x h hs
  cases ex : has s x
  · rw [ex] at hh hR
    simp at hR
    obtain ⟨rfl, rfl⟩ := hR
    have HH := Lib.hid hh
    have hq : GOut W oo g H s w := ⟨N, h, hN⟩
    have HQ := Lib.hid hq
    clear hh h hN hq ex hs
    go_enter Try.func19, Try.ntmps19
    go_wp2_with fail
    refine HH.out.mono ?_
    rintro e w1 ⟨rfl, rfl⟩
    go_wp2_with fail
    go_ret
    exact ⟨rfl, HQ.out⟩
  · rw [ex] at hh hR
    have HH := Lib.hid hh
    cases hf : fits s b c
    · rw [hf] at hR
      simp at hR
      obtain ⟨rfl, rfl⟩ := hR
      have hq : GOut W oo g H s w := ⟨N, h, hN⟩
      have HQ := Lib.hid hq
      unfold fits at hf
      generalize s.largest = m at *
      clear hh h hN hq ex hs
      by_cases b0 : b < 0
      · clear hf
        go_enter Try.func19, Try.ntmps19
        go_wp2_with fail
        refine HH.out.mono ?_
        rintro e w1 ⟨rfl, rfl⟩
        go_wp2_with fail
        go_ret
        exact ⟨rfl, HQ.out⟩
      · by_cases c0' : c < 0
        · clear hf
          go_enter Try.func19, Try.ntmps19
          go_wp2_with fail
          refine HH.out.mono ?_
          rintro e w1 ⟨rfl, rfl⟩
          go_wp2_with fail
          go_ret
          exact ⟨rfl, HQ.out⟩
        · have hlt : ¬ b + c ≤ m := by
            intro h'
            rw [show decide (0 ≤ b) = true from by simp; omega, show decide (0 ≤ c) = true from by simp; omega, show decide (b + c ≤ (m : Int)) = true from by simp; omega] at hf
            simp at hf
          clear hf
          by_cases bm : (m : Int) < b
          · go_enter Try.func19, Try.ntmps19
            go_wp2_with fail
            refine HH.out.mono ?_
            rintro e w1 ⟨rfl, rfl⟩
            go_wp2_with fail
            go_ret
            exact ⟨rfl, HQ.out⟩
          · have hcm : (m : Int) - b < c := by omega
            clear hlt
            go_enter Try.func19, Try.ntmps19
            go_wp2_with fail
            refine HH.out.mono ?_
            rintro e w1 ⟨rfl, rfl⟩
            go_wp2_with fail
            go_ret
            exact ⟨rfl, HQ.out⟩
    · rw [hf] at hR
      simp at hR
      obtain ⟨rfl, hR2⟩ := hR
      unfold fits at hf
      simp at hf
      obtain ⟨b0, c0', hbc⟩ := hf
      have hN1 : N.length = s.nodes.length := by rw [← hN]; simp
      have hhs : ∀ y ∈ s.hs, y ≤ N.length := fun y hy => by rw [hN1]; exact hs.hs y hy
      have hnr : ∀ p ∈ N, ∀ y ∈ p.1.refs, y ≤ N.length := fun p hp y hy => by
        rw [hN1]
        exact (hs.node p.1 (by rw [← hN]; exact List.mem_map_of_mem hp)).1 y hy
      obtain ⟨k, rfl⟩ : ∃ k : Nat, b = k := ⟨b.toNat, by omega⟩
      obtain ⟨m, rfl⟩ : ∃ m : Nat, c = m := ⟨c.toNat, by omega⟩
      simp only [Int.toNat_natCast] at hR2
      obtain ⟨x0, x1⟩ := (has_iff s x).1 ex
      have ch := cell_h h ex
      have fh := (g_hs h).frozen x.toNat
      have hbl : ∀ (X : World) (B R S : Nat), SepO W oo X (gparts g H s.largest s.hs N ++ [blkP B 67 #[slv R k, slv S m], blkP R 59 (pvs N (List.replicate k 0)), blkP S 28 (wds (List.replicate m 0))]) → GOut W oo g H R2 (X.setCell ⟨H, x.toNat, none⟩ (pt B)) := by
        intro X B R S hX
        have h9 := g_new hhs hnr hX x.toNat
        rw [← hR2]
        exact ⟨_, by rw [← hN1]; exact h9, by simp [hN]⟩
      have e1 : pvs N (List.replicate k 0) = (List.replicate k (Value.pointer none)).toArray := by simp [pvs, pv, bk, penc]
      have e2 : wds (List.replicate m 0) = (List.replicate m (Value.int .u64 0)).toArray := by simp [wds]
      rw [e1, e2] at hbl
      clear e1 e2
      obtain ⟨i1, i2, i3, i4, i5⟩ := info_parts info_node
      obtain ⟨j1, j2, j3, j4, j5⟩ := info_parts info_word
      have mk1 := fun X => run_mk (P := Try.prog) Try.underlying49 i2 i3 i4 rfl (k : Int) (by omega) (by rw [i5]; omega) (by omega) X
      have mk2 := fun X => run_mk (P := Try.prog) Try.underlying43 j2 j3 j4 rfl (m : Int) (by omega) (by rw [j5]; omega) (by omega) X
      simp only [Int.toNat_natCast] at mk1 mk2
      clear i2 i3 i4 i5 j2 j3 j4 j5
      obtain ⟨q, hq⟩ := pv_ptr N (held s x)
      rw [hq] at ch
      have k0 : ∀ X, SepO W oo X (gparts g H s.largest s.hs N) → X.cell? ⟨g, 0, none⟩ = some (slv H s.hs.length) ∧ X.cell? ⟨H, x.toNat, none⟩ = some (.pointer q) ∧ X.frozen? ⟨H, x.toNat, none⟩ = false := fun X hX => ⟨by have := (g_blk hX).cell 0; simpa using this, by rw [cell_h hX ex, hq], (g_hs hX).frozen _⟩
      have a1 := fun o => (k0 _ (h.alloc o)).1
      have a2 := fun o o' => (k0 _ ((h.alloc o).alloc o')).1
      have a3 := fun o o' o'' => (k0 _ (((h.alloc o).alloc o').alloc o'')).1
      have b3 := fun o o' o'' => (k0 _ (((h.alloc o).alloc o').alloc o'')).2.1
      have d3 := fun o o' o'' => (k0 _ (((h.alloc o).alloc o').alloc o'')).2.2
      have H0 := Lib.hid h
      have HR2 := Lib.hid hR2
      have HN := Lib.hid hN
      have HB := Lib.hid hbl
      have lg := (g_blk h).lt
      have lH := (g_hs h).lt
      have q1 : k ≤ s.largest := by omega
      have q2 : (m : Int) ≤ (s.largest : Int) - k := by omega
      generalize s.largest = lar at *
      clear k0 hq hh h hN ex hs hN1 hhs hnr hbl hR2 hbc
      go_enter Try.func19, Try.ntmps19
      go_wp2_with fail
      refine HH.out.mono ?_
      rintro e w1 ⟨rfl, rfl⟩
      go_wp2_with fail
      go_region
      all_goals
        go_wp2_with fail
        go_ret
        refine ⟨rfl, GOut.drew ?_⟩
        first
          | exact HB.out _ _ _ _ (by simpa using (((H0.out.new_blk 59 (List.replicate k (Value.pointer none)).toArray).new_blk 28 (List.replicate m (Value.int .u64 0)).toArray).new_blk 67 #[slv w.heap.size k, slv (w.heap.size + 1) m]).tail3 [2, 0, 1] (by decide))
          | exact HB.out _ _ _ _ (by simpa using (((H0.out.new_blk 28 (List.replicate m (Value.int .u64 0)).toArray).new_blk 59 (List.replicate k (Value.pointer none)).toArray).new_blk 67 #[slv (w.heap.size + 1) k, slv w.heap.size m]).tail3 [2, 1, 0] (by decide))
end
end Go.Proofs.Ytoldhaomacnigaa.Gr
