/- Contracts of the reference's graph: change, that makes. No condition. -/
import Derived.Test.YtoldhaomacnigaaRgB
import Derived.Deep.RegionHeld3
import Derived.Deep.RegionWith
import Derived.Deep.RegionLaw
import Derived.Deep.DeepCutAuto
import Derived.Deep.CutBlock
import Derived.IntWalk
set_option linter.unusedVariables false
set_option linter.unusedSimpArgs false
namespace Go.Proofs.Ytoldhaomacnigaa.Rg
open Go.RowKit Go.Proofs.Ytoldhaomacnigaa.W Go.Proofs.Ytoldhaomacnigaa Go.Proofs.Ytoldhaomacnigaa.Gr
theorem box_cells {W w : World} {oo : Nat → Prop} {L l : List Pr} {B : Nat} {x : A5} (h : SepO W oo w (L ++ blkP B 33 (stc x) :: l)) : w.cell? ⟨B, 0, none⟩ = some (.int .i64 x.kind) ∧ w.cell? ⟨B, 1, none⟩ = some (.int .i64 x.a) ∧ w.cell? ⟨B, 2, none⟩ = some (.int .i64 x.b) ∧ w.cell? ⟨B, 3, none⟩ = some (.int .i64 x.c) ∧ w.cell? ⟨B, 4, none⟩ = some (.int .u64 x.v) := by
  have hb := h.blk L.length at_last
  exact ⟨hb.cell 0, hb.cell 1, hb.cell 2, hb.cell 3, hb.cell 4⟩
theorem r_blk' {W w : World} {oo : Nat → Prop} {g lar : Nat} {k : RK} {hs : List Nat} {N : RL} {m : List Pr} {P : Pr} (h : SepO W oo w ((rparts g lar k hs N ++ m).set 1 P)) : Blk w g 53 (rcells k lar hs N) := h.blk 0 rfl
theorem run_append_rowK {W w : World} {oo : Nat → Prop} {l : List Pr} {P : Program} (t ty : TypeId)
    (e : TypeId) (i : TypeInfo) (z : Value) (size bytes : Nat) (ht : P.underlying t = some (.slice e)) (hi : P.info? e = some i) (hz : i.zero = some z) (hs : i.size = size) (hby : i.bytes = bytes) (hzs : z.cells.size = size) (hsz : 0 < size)
    (v : Value) (n : Nat) (xs : List Value) (h : SepO W oo w l) (k : Nat) (hk : l[k]? = some (rowK e size v n xs)) (ad : Addr) (news : List Value)
    (hl : news.length = size) (hnews : ∀ j u, news[j]? = some u → w.cell? (ad.add j) = some u) (h1 : ∀ u ∈ news, u.oneCell' = true)
    (h63 : n + 1 ≤ 9223372036854775807) (hbytes : (n + 1) * bytes ≤ 140737488355328) :
    ∃ A' c' w', (Builtin.append_ #[t, t] ty #[v, .slice (some ad) 1 1]).run P w = .ok (.slice A' (n + 1) c') w' ∧ SepO W oo w' (l.set k (rowK e size (.slice A' (n + 1) c') (n + 1) (xs ++ news))) := by
  obtain ⟨ok, ⟨hq, hq2⟩, _, hup⟩ := h.open_ k hk
  obtain ⟨v', w', hr, hown, hgr, _, hblk⟩ := run_append_own_at (P := P) w 0 t ty e i z size bytes ht hi hz hs hby hzs hsz v n xs hq ad 1 1 news (by simpa using hl) hnews h1 (by unfold maxLen; omega) hbytes (Nat.zero_le _)
  obtain ⟨A', c', rfl, _, _, _⟩ := own_form hown
  refine ⟨A', c', w', hr, hup w' (rowK e size _ (n + 1) (xs ++ news)) ⟨hown, fun g hg => ?_⟩ ⟨hgr.os, hgr.tape, hgr.output, hgr.size, fun j hj hn => hgr.block j hj (fun hx => hn (hq2 j hx.symm))⟩⟩
  rcases hblk with hb | hb
  · exact .inl (hq2 g (hb ▸ hg))
  · rw [hb] at hg
    cases hg
    exact .inr (Nat.le_refl _)
theorem r_new {W w : World} {oo : Nat → Prop} {g lar : Nat} {k : RK} {hs : List Nat} {N : RL} {Bx : Pr} {R S q m : Nat} {A' : Option Addr} {c' : Nat}
    (h : SepO W oo w ((rparts g lar k hs N ++ [Bx, blkP R 3 (nats (List.replicate q 0)).toArray, blkP S 28 (wds (List.replicate m 0))]).set 1 (rowK 45 2 (.slice A' (N.length + 1 + 1) c') (N.length + 1 + 1) (rcl N ++ [slv R q, slv S m])))) :
    SepO W oo (w.setCell ⟨g, 0, none⟩ (.slice A' (N.length + 1 + 1) c')) (rparts g lar ⟨A', c', k.B, k.d⟩ hs (N ++ [(⟨List.replicate q 0, List.replicate m 0⟩, ⟨R, S⟩)]) ++ [Bx]) := by
  have h1 := h.set_blk 0 (g := g) (t := 53) (cs := rcells k lar hs N) rfl 0 (.slice A' (N.length + 1 + 1) c')
  have e : ((rparts g lar k hs N ++ [Bx, blkP R 3 (nats (List.replicate q 0)).toArray, blkP S 28 (wds (List.replicate m 0))]).set 1 (rowK 45 2 (.slice A' (N.length + 1 + 1) c') (N.length + 1 + 1) (rcl N ++ [slv R q, slv S m]))).set 0 (blkP g 53 ((rcells k lar hs N).setIfInBounds 0 (.slice A' (N.length + 1 + 1) c'))) =
      (blkP g 53 #[.slice A' (N.length + 1 + 1) c', .slice k.B hs.length k.d, .int .i64 lar] :: rowK 45 2 (.slice A' (N.length + 1 + 1) c') (N.length + 1 + 1) (rcl N ++ [slv R q, slv S m]) :: rowP 3 k.B hs.length k.d (nats hs) :: N.flatMap rpl) ++ [Bx, blkP R 3 (nats (List.replicate q 0)).toArray, blkP S 28 (wds (List.replicate m 0))] := rfl
  rw [e] at h1
  have h2 := h1.tail_pick [1, 2, 0] (by decide)
  have e2 : rparts g lar ⟨A', c', k.B, k.d⟩ hs (N ++ [(⟨List.replicate q 0, List.replicate m 0⟩, ⟨R, S⟩)]) ++ [Bx] =
      (blkP g 53 #[.slice A' (N.length + 1 + 1) c', .slice k.B hs.length k.d, .int .i64 lar] :: rowK 45 2 (.slice A' (N.length + 1 + 1) c') (N.length + 1 + 1) (rcl N ++ [slv R q, slv S m]) :: rowP 3 k.B hs.length k.d (nats hs) :: N.flatMap rpl) ++ [blkP R 3 (nats (List.replicate q 0)).toArray, blkP S 28 (wds (List.replicate m 0)), Bx] := by
    simp [rparts, rcells, rcl, rcl1, rpl, List.flatMap_append]
  rw [e2]
  exact h2
theorem r_newB {W w : World} {oo : Nat → Prop} {g lar : Nat} {k : RK} {hs : List Nat} {N : RL} {Bx : Pr} {R S q m : Nat} {A' : Option Addr} {c' : Nat}
    (h : SepO W oo w ((rparts g lar k hs N ++ [Bx, blkP S 28 (wds (List.replicate m 0)), blkP R 3 (nats (List.replicate q 0)).toArray]).set 1 (rowK 45 2 (.slice A' (N.length + 1 + 1) c') (N.length + 1 + 1) (rcl N ++ [slv R q, slv S m])))) :
    SepO W oo (w.setCell ⟨g, 0, none⟩ (.slice A' (N.length + 1 + 1) c')) (rparts g lar ⟨A', c', k.B, k.d⟩ hs (N ++ [(⟨List.replicate q 0, List.replicate m 0⟩, ⟨R, S⟩)]) ++ [Bx]) := by
  have e : ∀ x y, (rparts g lar k hs N ++ [Bx, x, y]).set 1 (rowK 45 2 (.slice A' (N.length + 1 + 1) c') (N.length + 1 + 1) (rcl N ++ [slv R q, slv S m])) = ((rparts g lar k hs N).set 1 (rowK 45 2 (.slice A' (N.length + 1 + 1) c') (N.length + 1 + 1) (rcl N ++ [slv R q, slv S m]))) ++ [Bx, x, y] := fun x y => rfl
  rw [e] at h
  have h2 := h.tail_pick [0, 2, 1] (by decide)
  refine r_new ?_
  rw [e]
  exact h2
section
variable {W w : World} {oo : Nat → Prop} {g : Nat} {s : GS} {k : RK} {N : RL} {m : List Pr}
set_option maxRecDepth 20000 in
set_option maxHeartbeats 40000000 in
theorem ch_make (a b c v : Int) (h : SepO W oo w (rparts g s.largest k s.hs N)) (hs : s.ok) (hN : N.map (·.1) = s.nodes) (hnl : s.nodes.length ≤ 1000) :
    Calls Try.prog 26 #[pt g, stp ⟨1, a, b, c, v⟩] w fun e w' => e = .returned (.int .i64 (gmake s a b c).1) ∧ ROut W oo g (gmake s a b c).2 w' := by
  obtain ⟨⟨R1, R2⟩, hR⟩ : ∃ R, gmake s a b c = R := ⟨_, rfl⟩
  rw [hR]
  simp only []
  unfold gmake at hR
  have hl := hs.hlen
  have hlr := hs.lar
  have h1 := h.new_blk 33 (stc ⟨1, a, b, c, v⟩)
  have hq : ROut W oo g s (w.alloc (.cells (stc ⟨1, a, b, c, v⟩) 33)) := ⟨k, N, h.alloc _, hN⟩
  have HQ := Lib.hid hq
  clear hq
  have hw := has_r a h1 hs
  have HW := Lib.hid hw
  clear hw
  cases et : has s a
  · rw [et] at hR
    simp at hR
    obtain ⟨rfl, rfl⟩ := hR
    have HT := Lib.hid et
    clear h hN h1 et
    go_enter Try.func26, Try.ntmps26
    go_wp2_with fail
    refine HW.out.mono ?_
    rintro e w1 ⟨rfl, rfl⟩
    rw [HT.out]
    go_wp2_with fail
    go_ret
    exact ⟨rfl, HQ.out⟩
  · rw [et] at hR
    have HT := Lib.hid et
    have fc := fun (X : World) (l : List Pr) (hX : SepO W oo X (rparts g s.largest k s.hs N ++ l)) => r_cells hX
    have c2 := (fc _ _ h1).2.2
    cases hf : fits s b c
    · rw [hf] at hR
      simp at hR
      obtain ⟨rfl, rfl⟩ := hR
      unfold fits at hf
      clear h hN h1 et fc
      generalize s.largest = M at *
      have key : (b < 0 ∨ (0 ≤ b ∧ c < 0) ∨ (0 ≤ b ∧ 0 ≤ c ∧ (M : Int) < b) ∨ (0 ≤ b ∧ 0 ≤ c ∧ b ≤ M ∧ (M : Int) - b < c)) := by
        by_cases b0 : b < 0
        · exact .inl b0
        · by_cases c0 : c < 0
          · exact .inr (.inl ⟨by omega, c0⟩)
          · have : ¬ b + c ≤ M := by
              intro h'
              rw [show decide (0 ≤ b) = true from by simp; omega, show decide (0 ≤ c) = true from by simp; omega, show decide (b + c ≤ (M : Int)) = true from by simp; omega] at hf
              simp at hf
            omega
      clear hf
      have key2 : (decide (b < 0) = true) ∨ (decide (b < 0) = false ∧ decide (c < 0) = true) ∨ (decide (b < 0) = false ∧ decide (c < 0) = false ∧ decide ((M : Int) < b) = true) ∨ (decide (b < 0) = false ∧ decide (c < 0) = false ∧ decide ((M : Int) < b) = false ∧ decide ((M : Int) - b < c) = true ∧ 0 ≤ b ∧ b ≤ M ∧ IntKind.i64.wrap ((M : Int) - b) = (M : Int) - b) := by
        rcases key with b0 | ⟨b0, c0⟩ | ⟨b0, c0, bm⟩ | ⟨b0, c0, bm, cm⟩
        · exact .inl (by simpa using b0)
        · exact .inr (.inl ⟨by simp; omega, by simpa using c0⟩)
        · exact .inr (.inr (.inl ⟨by simp; omega, by simp; omega, by simpa using bm⟩))
        · exact .inr (.inr (.inr ⟨by simp; omega, by simp; omega, by simp; omega, by simp; omega, b0, bm, IntWalk.i64_in _ (by omega)⟩))
      clear key
      rcases key2 with k1 | ⟨k1, k2⟩ | ⟨k1, k2, k3⟩ | ⟨k1, k2, k3, k4, k5, k6, k7⟩
      all_goals
        go_enter Try.func26, Try.ntmps26
        go_wp2_with fail
        refine HW.out.mono ?_
        rintro e w1 ⟨rfl, rfl⟩
        rw [HT.out]
        go_wp2_with fail
        go_quiet (fail)
        all_goals
          go_wp2_with fail
          go_ret
          exact ⟨rfl, by first | exact HQ.out | exact HQ.out.drew | exact HQ.out.drewN _⟩
    · rw [hf] at hR
      simp at hR
      obtain ⟨rfl, hR2⟩ := hR
      unfold fits at hf
      simp at hf
      obtain ⟨b0, c0, hbc⟩ := hf
      obtain ⟨q, rfl⟩ : ∃ q : Nat, b = q := ⟨b.toNat, by omega⟩
      obtain ⟨m', rfl⟩ : ∃ m : Nat, c = m := ⟨c.toNat, by omega⟩
      simp only [Int.toNat_natCast] at hR2
      obtain ⟨t0, t1⟩ := (has_iff s a).1 et
      have hN1 : N.length = s.nodes.length := by rw [← hN]; simp
      obtain ⟨i1, i2, i3, i4, i5⟩ := info_parts Sm.info_int
      obtain ⟨j1, j2, j3, j4, j5⟩ := info_parts info_word
      obtain ⟨x1, x2, x3, x4, x5⟩ := info_parts info_nd
      have mk1 := fun X => run_mk (P := Try.prog) Try.underlying36 i2 i3 i4 rfl (q : Int) (by omega) (by rw [i5]; omega) (by omega) X
      have mk2 := fun X => run_mk (P := Try.prog) Try.underlying43 j2 j3 j4 rfl (m' : Int) (by omega) (by rw [j5]; omega) (by omega) X
      simp only [Int.toNat_natCast] at mk1 mk2
      have q1 : q ≤ s.largest := by omega
      have q2 : (m' : Int) ≤ (s.largest : Int) - q := by omega
      have q3 : q ≤ 64 := by omega
      have q4 : m' ≤ 64 := by omega
      have lg := (r_blk h).lt
      have FC := Lib.hid fc
      have H1 := Lib.hid h1
      have HR2 := Lib.hid hR2
      have HN := Lib.hid hN
      clear h hN h1 et fc hR2 hbc i2 i3 i4 i5 j2 j3 j4 j5
      go_enter Try.func26, Try.ntmps26
      go_wp2_with fail
      refine HW.out.mono ?_
      rintro e w1 ⟨rfl, rfl⟩
      rw [HT.out]
      have k1 : decide ((q : Int) < 0) = false := by simp
      have k2 : decide ((m' : Int) < 0) = false := by simp
      have k3 : decide (((s.largest : Nat) : Int) < (q : Int)) = false := by simp; omega
      have k3' : decide (s.largest < q) = false := by simp; omega
      have k4 : decide ((s.largest : Int) - q < (m' : Int)) = false := by simp; omega
      have k7 : IntKind.i64.wrap ((s.largest : Int) - q) = (s.largest : Int) - q := IntWalk.i64_in _ (by omega)
      go_wp2_with fail
      go_quiet (fail)
      go_wp2_with fail
      go_cut [] (fun wx => ∃ (A' : Option Addr) (c' R S : Nat), SepO W oo wx (rparts g s.largest ⟨A', c', k.B, k.d⟩ s.hs (N ++ [(⟨List.replicate q 0, List.replicate m' 0⟩, ⟨R, S⟩)]) ++ [blkP w.heap.size 33 (stc ⟨1, a, (q : Int), (m' : Int), v⟩)]))
      case rest =>
        as_aux_lemma =>
        obtain ⟨A', c', R, S, hc⟩ := hcut
        have e1 : (N ++ [((⟨List.replicate q 0, List.replicate m' 0⟩ : GN), (⟨R, S⟩ : RB))]).length = N.length + 1 := by simp
        have d0 : wc.cell? ⟨g, 0, none⟩ = some (.slice A' (N.length + 1 + 1) c') := by
          have := (r_blk hc.first).cell 0
          rw [show (rcells ⟨A', c', k.B, k.d⟩ s.largest s.hs (N ++ [((⟨List.replicate q 0, List.replicate m' 0⟩ : GN), (⟨R, S⟩ : RB))]))[0]? = some (.slice A' ((N ++ [((⟨List.replicate q 0, List.replicate m' 0⟩ : GN), (⟨R, S⟩ : RB))]).length + 1) c') from rfl, e1] at this
          exact this
        have d1 : wc.cell? ⟨g, 1, none⟩ = some (.slice k.B s.hs.length k.d) := (r_blk hc.first).cell 1
        obtain ⟨G, off, hB, hGl, hcl, hfr, hup⟩ := r_hs hc.first (i := a.toNat) (by omega)
        replace hB : k.B = some ⟨G, off, none⟩ := hB
        rw [hB] at d1
        obtain ⟨-, b1, -, -, -⟩ := box_cells hc
        simp only [] at b1
        have hfin : ROut W oo g R2 (wc.setCell ⟨G, off + a.toNat, none⟩ (.int .i64 ((N.length + 1 : Nat) : Int))) := by
          rw [← HR2.out]
          refine ⟨⟨A', c', k.B, k.d⟩, N ++ [((⟨List.replicate q 0, List.replicate m' 0⟩ : GN), (⟨R, S⟩ : RB))], ?_, by rw [List.map_append, HN.out]; rfl⟩
          have := hup (N.length + 1)
          rw [← hN1]
          exact this
        have HF := Lib.hid hfin
        have hnN : N.length ≤ 1000 := by omega
        clear hc hup hfin HQ HW FC H1 e1 hN1 k1 k2 k3 k3' k4 k7 hB mk1 mk2
        go_wp2_with fail
        go_region
        all_goals
          go_wp2_with fail
          go_ret
          exact ⟨rfl, by first | exact HF.out.drew | exact HF.out⟩
      case first =>
      as_aux_lemma =>
      have h2 := H1.out.drewN nq
      have y0 := fun o => (FC.out _ _ (h2.alloc o)).1
      have y1 := fun o o' => (FC.out _ _ ((h2.alloc o).alloc o')).1
      have y2 := fun o o' o'' => (FC.out _ _ (((h2.alloc o).alloc o').alloc o'')).1
      have y3 := (FC.out _ _ h2).1
      obtain ⟨-, b1, b2, b3, -⟩ := box_cells h2
      have ba := fun o => (box_cells (h2.alloc o)).2.2.1
      have bb := fun o => (box_cells (h2.alloc o)).2.2.2.1
      simp only [] at b1 b2 b3 ba bb
      generalize hw1 : (w.alloc (.cells (stc ⟨1, a, (q : Int), (m' : Int), v⟩) 33)).drewN nq = w1 at *
      have nA := ((h2.new_blk 3 (List.replicate q (Value.int .i64 0)).toArray).new_blk 28 (List.replicate m' (Value.int .u64 0)).toArray)
      have nB := ((h2.new_blk 28 (List.replicate m' (Value.int .u64 0)).toArray).new_blk 3 (List.replicate q (Value.int .i64 0)).toArray)
      have sA := (nA.alloc (.cells #[slv w1.heap.size q, slv (w1.heap.size + 1) m'] 45)).drew
      have sB := (nB.alloc (.cells #[slv (w1.heap.size + 1) q, slv w1.heap.size m'] 45)).drew
      have eA : ∀ j u, [slv w1.heap.size q, slv (w1.heap.size + 1) m'][j]? = some u → (((w1.alloc (.cells (List.replicate q (Value.int .i64 0)).toArray 3)).alloc (.cells (List.replicate m' (Value.int .u64 0)).toArray 28)).alloc (.cells #[slv w1.heap.size q, slv (w1.heap.size + 1) m'] 45)).drew.cell? ((⟨w1.heap.size + 1 + 1, 0, none⟩ : Addr).add j) = some u := by
        have := news2 ((w1.alloc (.cells (List.replicate q (Value.int .i64 0)).toArray 3)).alloc (.cells (List.replicate m' (Value.int .u64 0)).toArray 28)) 45 (slv w1.heap.size q) (slv (w1.heap.size + 1) m')
        simpa using this
      have eB : ∀ j u, [slv (w1.heap.size + 1) q, slv w1.heap.size m'][j]? = some u → (((w1.alloc (.cells (List.replicate m' (Value.int .u64 0)).toArray 28)).alloc (.cells (List.replicate q (Value.int .i64 0)).toArray 3)).alloc (.cells #[slv (w1.heap.size + 1) q, slv w1.heap.size m'] 45)).drew.cell? ((⟨w1.heap.size + 1 + 1, 0, none⟩ : Addr).add j) = some u := by
        have := news2 ((w1.alloc (.cells (List.replicate m' (Value.int .u64 0)).toArray 28)).alloc (.cells (List.replicate q (Value.int .i64 0)).toArray 3)) 45 (slv (w1.heap.size + 1) q) (slv w1.heap.size m')
        simpa using this
      rw [List.append_assoc, List.append_assoc] at sA sB
      have sA' : SepO W oo (((w1.alloc (.cells (List.replicate q (Value.int .i64 0)).toArray 3)).alloc (.cells (List.replicate m' (Value.int .u64 0)).toArray 28)).alloc (.cells #[slv w1.heap.size q, slv (w1.heap.size + 1) m'] 45)).drew (rparts g s.largest k s.hs N ++ [blkP w.heap.size 33 (stc ⟨1, a, (q : Int), (m' : Int), v⟩), blkP w1.heap.size 3 (nats (List.replicate q 0)).toArray, blkP (w1.heap.size + 1) 28 (wds (List.replicate m' 0))]) := by simpa [nats, wds] using sA
      have sB' : SepO W oo (((w1.alloc (.cells (List.replicate m' (Value.int .u64 0)).toArray 28)).alloc (.cells (List.replicate q (Value.int .i64 0)).toArray 3)).alloc (.cells #[slv (w1.heap.size + 1) q, slv w1.heap.size m'] 45)).drew (rparts g s.largest k s.hs N ++ [blkP w.heap.size 33 (stc ⟨1, a, (q : Int), (m' : Int), v⟩), blkP w1.heap.size 28 (wds (List.replicate m' 0)), blkP (w1.heap.size + 1) 3 (nats (List.replicate q 0)).toArray]) := by simpa [nats, wds] using sB
      clear sA sB
      simp only [List.toArray_replicate] at sA' sB' eA eB
      have SA := Lib.hid sA'
      have SB := Lib.hid sB'
      clear sA' sB'
      have EA := Lib.hid eA
      have EB := Lib.hid eB
      have HN1 := Lib.hid hN1
      have hnN : N.length ≤ 1000 := by omega
      clear hN1 HW HQ k1 k2 k3 k3' k4 k7 c2 nA nB h2 eA eB
      go_region_law (first | (refine step_append_rowK rfl (.tmp 53) (.tmp 61) 35 rfl 45 x1 (.agg #[.slice none 0 0, .slice none 0 0]) 2 48 Try.underlying35 x2 x3 x4 x5 rfl (by decide) (.slice k.A (N.length + 1) k.c) (N.length + 1) (rcl N) (by simp [Act.eval, Act.put]) SA.out 1 rfl ⟨w1.heap.size + 1 + 1, 0, none⟩ [slv w1.heap.size q, slv (w1.heap.size + 1) m'] (by simp [Act.eval, Act.put]) rfl EA.out (by intro u hu; simp at hu; rcases hu with rfl | rfl <;> rfl) (by omega) (by omega) ?_; intro A' c' w' h'; have zc := (r_blk' h').cell 0; have zf := (r_blk' h').frozen 0; simp [rcells] at zc; have HH' := Lib.hid (r_new h'); clear h') | (refine step_append_rowK rfl (.tmp 53) (.tmp 61) 35 rfl 45 x1 (.agg #[.slice none 0 0, .slice none 0 0]) 2 48 Try.underlying35 x2 x3 x4 x5 rfl (by decide) (.slice k.A (N.length + 1) k.c) (N.length + 1) (rcl N) (by simp [Act.eval, Act.put]) SB.out 1 rfl ⟨w1.heap.size + 1 + 1, 0, none⟩ [slv (w1.heap.size + 1) q, slv w1.heap.size m'] (by simp [Act.eval, Act.put]) rfl EB.out (by intro u hu; simp at hu; rcases hu with rfl | rfl <;> rfl) (by omega) (by omega) ?_; intro A' c' w' h'; have zc := (r_blk' h').cell 0; have zf := (r_blk' h').frozen 0; simp [rcells] at zc; have HH' := Lib.hid (r_newB h'); clear h'))
      all_goals
        as_aux_lemma =>
        go_wp2_with fail
        go_meet
        exact ⟨A', c', _, _, HH'.out⟩
end
end Go.Proofs.Ytoldhaomacnigaa.Rg
