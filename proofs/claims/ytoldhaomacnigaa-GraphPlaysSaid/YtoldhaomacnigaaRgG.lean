/- Contracts of the reference's graph: Live. No condition. -/
import Derived.Test.YtoldhaomacnigaaRgF
set_option linter.unusedVariables false
set_option linter.unusedSimpArgs false
namespace Go.Proofs.Ytoldhaomacnigaa.Rg
open Go.RowKit Go.Proofs.Ytoldhaomacnigaa.W Go.Proofs.Ytoldhaomacnigaa Go.Proofs.Ytoldhaomacnigaa.Gr
section
variable {W w : World} {oo : Nat → Prop} {g : Nat} {s : GS} {k : RK} {N : RL}
set_option maxRecDepth 20000 in
set_option maxHeartbeats 8000000 in
theorem Live_in (h : SepO W oo w (rparts g s.largest k s.hs N)) (hs : s.ok) (hN : N.map (·.1) = s.nodes) (hn : N.length ≤ 1000) :
    Calls Try.prog 30 #[pt g] w fun e w' => ∃ A c, e = .returned (.slice A (live s).length c) ∧ SepO W oo w' (rparts g s.largest k s.hs N ++ [rowP 3 A (live s).length c (nats (live s))]) := by
  have hN1 : N.length = s.nodes.length := by rw [← hN]; simp
  have hlv : bfs s N.length 0 (meetL [] s.hs) = live s := by unfold live; rw [hN1]
  have hl := hs.hlen
  obtain ⟨R, hR⟩ : ∃ R, live s = R := ⟨_, rfl⟩
  rw [hR] at hlv ⊢
  obtain ⟨i1, i2, i3, i4, i5⟩ := info_parts Sm.info_int
  obtain ⟨j1, j2, j3, j4, j5⟩ := info_parts info_bool
  have mk := fun X => run_mk (P := Try.prog) Try.underlying77 j2 j3 j4 rfl ((N.length + 1 : Nat) : Int) (by omega) (by rw [j5]; omega) (by omega) X
  rw [Int.toNat_natCast, show ((N.length + 1 : Nat) : Int) = (N.length : Int) + 1 from by omega] at mk
  obtain ⟨G, hA, _, _, hkc⟩ := r_row h
  have fc := fun (X : World) (l : List Pr) (hX : SepO W oo X (rparts g s.largest k s.hs N ++ l)) => r_cells hX
  have fh : ∀ (X : World) (l : List Pr), SepO W oo X (rparts g s.largest k s.hs N ++ l) → ∀ j, j < s.hs.length → ∃ GB off, k.B = some ⟨GB, off, none⟩ ∧ X.cell? ⟨GB, off + j, none⟩ = some (.int .i64 ((s.hs[j]?.getD 0 : Nat) : Int)) := fun X l hX j hj => by
    obtain ⟨GB, off, hB, _, hc, _⟩ := r_hs hX.first (i := j) hj
    exact ⟨GB, off, hB, hc⟩
  have fn := fun (X : World) (l : List Pr) (hX : SepO W oo X (rparts g s.largest k s.hs N ++ l)) (i : Nat) (p : GN × RB) (h0 : i ≠ 0) (hp : N[i - 1]? = some p) => r_node hX.first h0 hp hA
  have h2 : SepO W oo ((w.alloc (.cells #[] 3)).alloc (.cells ((Array.replicate (N.length + 1) (Value.bool false)).setIfInBounds 0 (Value.bool true)) 4)) (rparts g s.largest k s.hs N ++ lvr (w.heap.size + 1) N.length (some ⟨w.heap.size, 0, none⟩) 0 []) := by
    have h3 := ((h.new_row 3 #[] (by simp)).new_blk 4 ((Array.replicate (N.length + 1) (Value.bool false)).setIfInBounds 0 (Value.bool true)))
    rw [List.append_assoc] at h3
    have h4 := h3.tail_pick [1, 0] (by decide)
    have e : (Array.replicate (N.length + 1) (Value.bool false)).setIfInBounds 0 (Value.bool true) = bls (metL N.length []) := by rw [← metL_start]; simp
    rw [e] at h4 ⊢
    simpa [nats, lvr] using h4
  have hmet : ∀ X l Mt out, SepO W oo X (rparts g s.largest k s.hs N ++ blkP Mt 4 (bls (metL N.length out)) :: l) → ∀ x, x ≤ N.length → X.cell? ⟨Mt, x, none⟩ = some (.bool (decide (x = 0 ∨ x ∈ out))) ∧ X.frozen? ⟨Mt, x, none⟩ = false ∧ SepO W oo (X.setCell ⟨Mt, x, none⟩ (.bool true)) (rparts g s.largest k s.hs N ++ blkP Mt 4 (bls (metL N.length (out ++ [x]))) :: l) := fun X l Mt out hX x hx => by
    have hb := hX.blk (rparts g s.largest k s.hs N).length at_last
    refine ⟨by rw [hb.cell, metL_get hx], hb.frozen _, ?_⟩
    rw [← metL_set hx]
    exact hX.set_mid x (.bool true)
  rw [hA] at fc
  have c0 := fun o => (fc _ [] (by rw [List.append_nil]; exact h.alloc o)).1
  have FC := Lib.hid fc
  have FH := Lib.hid fh
  have FN := Lib.hid fn
  have HM := Lib.hid hmet
  have H2 := Lib.hid h2
  have HS := Lib.hid hs
  have HN := Lib.hid hN
  have HN1 := Lib.hid hN1
  have HLV := Lib.hid hlv
  have HA := Lib.hid hA
  clear fc fh fn hmet h2 hs hN hN1 hlv h hA hR
  clear j2 j3 j4 j5
  go_enter Try.func30, Try.ntmps30
  go_wp2_with fail
  generalize w.heap.size + 1 = Mt at *
  go_loopg [3, 5] s.hs.length (fun gk v z wr => ∃ (j : Nat) (A : Option Addr) (c : Nat), j + gk = s.hs.length ∧ z = .int .i64 j ∧ v = .slice A (meetL [] (s.hs.take j)).length c ∧ SepO W oo wr (rparts g s.largest k s.hs N ++ lvr Mt N.length A c (meetL [] (s.hs.take j))))
  case atStart => exact ⟨0, _, _, by omega, rfl, rfl, H2.out⟩
  case round =>
    clear H2 c0 mk
    obtain ⟨j, A, c, hj, rfl, rfl, h⟩ := hrel
    have HJ := Lib.hid hj
    have hjl : j ≤ s.hs.length := by omega
    clear hj
    have hok : OutOk N.length (meetL [] (s.hs.take j)) := (OutOk.nil _).meet (fun x hx => by rw [HN1.out]; exact HS.out.hs x (List.mem_of_mem_take hx))
    obtain ⟨-, c1, -⟩ := FC.out _ _ h
    by_cases hlt : j < s.hs.length
    · obtain ⟨GB, off, hB, ch⟩ := FH.out _ _ h j hlt
      obtain ⟨x, hx⟩ : ∃ x, s.hs[j]?.getD 0 = x := ⟨_, rfl⟩
      have hxe : s.hs[j] = x := by rw [← hx]; simp [hlt]
      have hxN : x ≤ N.length := by rw [HN1.out, ← hxe]; exact HS.out.hs _ (List.getElem_mem _)
      rw [hx] at ch
      rw [hB] at c1
      have hst := meet_take hlt []
      rw [hxe] at hst
      obtain ⟨m0, m1, m2⟩ := HM.out _ _ _ _ h x hxN
      generalize meetL [] (s.hs.take j) = out at *
      by_cases hm : x = 0 ∨ x ∈ out
      · rw [if_pos hm] at hst
        rw [show decide (x = 0 ∨ x ∈ out) = true from by simpa using hm] at m0
        have HST := Lib.hid hst
        have H1 := Lib.hid h
        clear h hst hm m1 m2 hx hxe hok hB
        go_wp2_with fail
        go_roundg (gk - 1)
        case measure => have := HJ.out; omega
        case rel => exact ⟨j + 1, A, c, by have := HJ.out; omega, by go_num, by rw [HST.out], by rw [HST.out]; exact H1.out⟩
      · rw [if_neg hm] at hst
        rw [show decide (x = 0 ∨ x ∈ out) = false from by simpa using hm] at m0
        have hok2 := hok.add (fun h0 => hm (.inl h0)) hxN (fun h0 => hm (.inr h0))
        have hol := hok2.len
        rw [List.length_append] at hol
        simp only [List.length_cons, List.length_nil] at hol
        obtain ⟨-, e1, -⟩ := FC.out _ _ m2
        rw [hB] at e1
        obtain ⟨GB', off', hB', ch'⟩ := FH.out _ _ m2 j hlt
        rw [hB] at hB'
        cases hB'
        rw [hx] at ch'
        have HST := Lib.hid hst
        have M2 := Lib.hid m2
        clear h hst hm m2 hx hxe hok hB hok2
        go_wp2_with (at_builtin; refine wpList_append_sep rfl _ _ 36 rfl 3 i1 (.int .i64 0) 8 Try.underlying36 i2 i3 i4 i5 rfl A out.length c (nats out) rfl _ (.int .i64 (x : Int)) rfl (M2.out.alloc _) ((rparts g s.largest k s.hs N).length + 1) (by simp) ?c1 rfl ?c2 ?c3 ?_)
        case c1 =>
          have h9 := (Blk.new (wr.setCell ⟨Mt, x, none⟩ (.bool true)) 3 #[.int .i64 (x : Int)]).cell 0
          rw [show (wr.setCell ⟨Mt, x, none⟩ (.bool true)).heap.size = wr.heap.size from by simp [World.setCell]] at h9
          exact h9
        case c2 => omega
        case c3 => omega
        intro A2 c2 w2 h2
        have h3 : SepO W oo w2 (rparts g s.largest k s.hs N ++ lvr Mt N.length A2 c2 (out ++ [x])) := by
          have e : nats (out ++ [x]) = nats out ++ [.int .i64 (x : Int)] := by simp [nats]
          unfold lvr
          rw [e, List.length_append]
          simpa using h2
        have H3 := Lib.hid h3
        clear h2 h3
        go_wp2_with fail
        go_roundg (gk - 1)
        case measure => have := HJ.out; omega
        case rel => exact ⟨j + 1, A2, c2, by have := HJ.out; omega, by go_num, by rw [HST.out]; simp, by rw [HST.out]; exact H3.out⟩
    · rw [List.take_of_length_le (by omega)] at h hok ⊢
      have H1 := Lib.hid h
      have HOK := Lib.hid hok
      have hB1 := c1
      clear h hok c1
      go_wp2_with fail
      go_loopg [3, 6] N.length (fun gk v z wr => ∃ (n : Nat) (out : List Nat) (A : Option Addr) (c : Nat), n + gk = N.length ∧ z = .int .i64 n ∧ v = .slice A out.length c ∧ n ≤ out.length ∧ OutOk N.length out ∧ bfs s gk n out = R ∧ SepO W oo wr (rparts g s.largest k s.hs N ++ lvr Mt N.length A c out))
      case atStart => exact ⟨0, _, A, c, by omega, rfl, rfl, Nat.zero_le _, HOK.out, HLV.out, H1.out⟩
      case round =>
        clear H1 HOK HLV HJ hjl hlt
        obtain ⟨n, out, A, c, hj, rfl, rfl, hno, hok, hb, h⟩ := hrel
        have HJ := Lib.hid hj
        have hol := hok.len
        obtain ⟨c0, -, -⟩ := FC.out _ _ h
        clear hj
        obtain ⟨gz, rfl⟩ : ∃ x, x = gk := ⟨_, rfl⟩
        by_cases hlt : n < out.length
        · have hgz : 1 ≤ gz := by have := HJ.out; omega
          obtain ⟨f, rfl⟩ : ∃ f, gz = f + 1 := ⟨gz - 1, by omega⟩
          obtain ⟨x, hx⟩ : ∃ x, out[n]? = some x := ⟨_, List.getElem?_eq_getElem hlt⟩
          have hxe : out[n] = x := by rw [List.getElem?_eq_getElem hlt] at hx; exact Option.some.inj hx
          have hxm := List.mem_of_getElem? hx
          unfold bfs at hb
          rw [hx] at hb
          simp only [] at hb
          have hx0 := hok.pos x hxm
          have hxl := hok.le x hxm
          obtain ⟨p, hp, hp1⟩ := rnode_at HS.out HN.out hx0 (by rw [← HN1.out]; exact hxl)
          obtain ⟨Go, off, rfl, hcell, hnc⟩ := lvr_out h hlt
          rw [hxe] at hcell
          obtain ⟨y0, y1⟩ := FN.out _ _ h x p hx0 hp
          have hnok := (nod_at HS.out hx0 (by rw [← HN1.out]; exact hxl)).2
          rw [← hp1] at hb hnok
          have hrl : p.1.refs.length ≤ 64 := by have := hnok.2.2; omega
          have hok2 : OutOk N.length (meetL out p.1.refs) := hok.meet (fun y hy => by rw [HN1.out]; exact hnok.1 y hy)
          obtain ⟨mm, hmm⟩ := meet_pre (l := p.1.refs) out
          have hle : out.length ≤ (meetL out p.1.refs).length := by rw [hmm]; simp
          have frf : ∀ (X : World) (l : List Pr), SepO W oo X (rparts g s.largest k s.hs N ++ l) → ∀ i, i < p.1.refs.length → X.cell? ⟨p.2.r, i, none⟩ = some (.int .i64 ((p.1.refs[i]?.getD 0 : Nat) : Int)) := fun X l hX i hi => by
            rw [(r_refs hX.first hp).cell, List.getElem?_toArray, nats_get hi]
          obtain ⟨L, hL⟩ : ∃ L, p.1.refs = L := ⟨_, rfl⟩
          have hLr := hnok.1
          rw [hL] at hb hok2 hle frf y0 hrl hLr
          rw [← HN1.out] at hLr
          have HB := Lib.hid hb
          have HO2 := Lib.hid hok2
          have HOK := Lib.hid hok
          have FRF := Lib.hid frf
          have HLR := Lib.hid hLr
          have H1 := Lib.hid h
          clear hb hok2 hok hmm h hp hp1 hnok hx hxm hxe frf hL hLr
          go_wp2_with fail
          go_quiet (fail)
          go_wp2_with fail
          go_loopg [3, 8] L.length (fun gk v z wr => ∃ (j : Nat) (A : Option Addr) (c : Nat), j + gk = L.length ∧ z = .int .i64 j ∧ v = .slice A (meetL out (L.take j)).length c ∧ SepO W oo wr (rparts g s.largest k s.hs N ++ lvr Mt N.length A c (meetL out (L.take j))))
          case atStart => exact ⟨0, _, _, by omega, rfl, rfl, H1.out.drewN _⟩
          case round =>
            clear H1 c0 y0 y1 hcell
            obtain ⟨j, A, c, hj, rfl, rfl, h⟩ := hrel
            have HK := Lib.hid hj
            have hjl : j ≤ L.length := by omega
            clear hj
            have hok : OutOk N.length (meetL out (L.take j)) := HOK.out.meet (fun x hx => HLR.out x (List.mem_of_mem_take hx))
            by_cases hlt2 : j < L.length
            · have ch := FRF.out _ _ h j hlt2
              obtain ⟨y, hy⟩ : ∃ y, L[j]?.getD 0 = y := ⟨_, rfl⟩
              have hye : L[j] = y := by rw [← hy]; simp [hlt2]
              have hyN : y ≤ N.length := by rw [← hye]; exact HLR.out _ (List.getElem_mem _)
              rw [hy] at ch
              have hst := meet_take hlt2 out
              rw [hye] at hst
              obtain ⟨m0, m1, m2⟩ := HM.out _ _ _ _ h y hyN
              generalize meetL out (L.take j) = o1 at *
              by_cases hm : y = 0 ∨ y ∈ o1
              · rw [if_pos hm] at hst
                rw [show decide (y = 0 ∨ y ∈ o1) = true from by simpa using hm] at m0
                have HST := Lib.hid hst
                have H1 := Lib.hid h
                clear h hst hm m1 m2 hy hye hok
                go_wp2_with fail
                go_roundg (gk - 1)
                case measure => have := HK.out; omega
                case rel => exact ⟨j + 1, A, c, by have := HK.out; omega, by go_num, by rw [HST.out], by rw [HST.out]; exact H1.out⟩
              · rw [if_neg hm] at hst
                rw [show decide (y = 0 ∨ y ∈ o1) = false from by simpa using hm] at m0
                have hok3 := hok.add (fun h0 => hm (.inl h0)) hyN (fun h0 => hm (.inr h0))
                have hol3 := hok3.len
                rw [List.length_append] at hol3
                simp only [List.length_cons, List.length_nil] at hol3
                have ch' := FRF.out _ _ m2 j hlt2
                rw [hy] at ch'
                have HST := Lib.hid hst
                have M2 := Lib.hid m2
                clear h hst hm m2 hy hye hok hok3
                go_wp2_with (at_builtin; refine wpList_append_sep rfl _ _ 36 rfl 3 i1 (.int .i64 0) 8 Try.underlying36 i2 i3 i4 i5 rfl A o1.length c (nats o1) rfl _ (.int .i64 (y : Int)) rfl (M2.out.alloc _) ((rparts g s.largest k s.hs N).length + 1) (by simp) ?c1 rfl ?c2 ?c3 ?_)
                case c1 =>
                  have h9 := (Blk.new (wr.setCell ⟨Mt, y, none⟩ (.bool true)) 3 #[.int .i64 (y : Int)]).cell 0
                  rw [show (wr.setCell ⟨Mt, y, none⟩ (.bool true)).heap.size = wr.heap.size from by simp [World.setCell]] at h9
                  exact h9
                case c2 => omega
                case c3 => omega
                intro A2 c2 w2 h2
                have h3 : SepO W oo w2 (rparts g s.largest k s.hs N ++ lvr Mt N.length A2 c2 (o1 ++ [y])) := by
                  have e : nats (o1 ++ [y]) = nats o1 ++ [.int .i64 (y : Int)] := by simp [nats]
                  unfold lvr
                  rw [e, List.length_append]
                  simpa using h2
                have H3 := Lib.hid h3
                clear h2 h3
                go_wp2_with fail
                go_roundg (gk - 1)
                case measure => have := HK.out; omega
                case rel => exact ⟨j + 1, A2, c2, by have := HK.out; omega, by go_num, by rw [HST.out]; simp, by rw [HST.out]; exact H3.out⟩
            · have hjL : j = L.length := by omega
              rw [List.take_of_length_le (by omega)] at h
              have e0 : meetL out (L.take j) = meetL out L := by rw [List.take_of_length_le (by omega)]
              have E0 := Lib.hid e0
              have H1 := Lib.hid h
              clear h hok e0
              go_wp2_with fail
              go_roundg f
              case measure => omega
              case rel => exact ⟨n + 1, meetL out L, A, c, by have := HJ.out; omega, by go_num, by rw [E0.out], by omega, HO2.out, HB.out, H1.out⟩
        · have hR : out = R := by
            have hx : out[n]? = none := List.getElem?_eq_none (by omega)
            cases gz with
            | zero => exact hb
            | succ f => unfold bfs at hb; rw [hx] at hb; exact hb
          subst hR
          have h1 := SepO.tail_pick (l := rparts g s.largest k s.hs N) (m := lvr Mt N.length A c out) h [1] (by decide)
          have H1 := Lib.hid h1
          clear h h1 hb hok
          go_wp2_with fail
          go_ret
          exact ⟨A, c, rfl, H1.out⟩
end
end Go.Proofs.Ytoldhaomacnigaa.Rg
