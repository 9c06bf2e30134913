/- Contracts of package graph: what is met, what is live. No condition. -/
import Derived.Test.YtoldhaomacnigaaGrF
set_option linter.unusedVariables false
set_option linter.unusedSimpArgs false
namespace Go.Proofs.Ytoldhaomacnigaa.Gr
open Go.RowKit Go.Proofs.Ytoldhaomacnigaa.W
theorem zero_int (w : World) : (zeroValue 3).run Try.prog w = .ok (.int .i64 0) w := by kernel_rfl
theorem node_info : ∃ i, Try.prog.info? 67 = some i ∧ i.size ≠ 0 := by
  have h9 : (Try.prog.info? 67).map (fun i => i.size) = some 2 := by kernel_rfl
  cases h8 : Try.prog.info? 67 with
  | none => rw [h8] at h9; cases h9
  | some i => rw [h8] at h9; simp at h9; exact ⟨i, rfl, by omega⟩
/-- What was met, and where each stands. -/
def lv (M O mg : Nat) (A : Option Addr) (c : Nat) (N : NL) (out : List Nat) : List Pr :=
  [blkP M 63 #[.map (some mg)], blkP O 49 #[.slice A out.length c], pmapP mg (atl N out 1), rowP 59 A out.length c (out.map (pv N))]
section
variable {W w : World} {oo : Nat → Prop} {g H lar : Nat} {hs : List Nat} {N : NL} {M O mg c : Nat} {A : Option Addr} {out : List Nat}
theorem lv_facts (h : SepO W oo w (gparts g H lar hs N ++ lv M O mg A c N out)) : Blk w M 63 #[.map (some mg)] ∧ Blk w O 49 #[.slice A out.length c] ∧ PMp w mg (atl N out 1) :=
  ⟨h.blk (gparts g H lar hs N).length (by simp [lv]), h.blk ((gparts g H lar hs N).length + 1) (by simp [lv]), h.pmp ((gparts g H lar hs N).length + 2) (by simp [lv])⟩
theorem lv_look (h : SepO W oo w (gparts g H lar hs N ++ lv M O mg A c N out)) (ho : OutOk N.length out) {x : Nat} (hx : x ≤ N.length) :
    (Instr.lookup 63 (.map (some mg)) (pv N x) true).run Try.prog w = .ok (.tuple #[.int .i64 (num out x), .bool (decide (x ∈ out))]) w ∧
    (Instr.lookup 63 (.map (some mg)) (pv N x) false).run Try.prog w = .ok (.int .i64 (num out x)) w := by
  obtain ⟨i, hi, hsz⟩ := node_info
  have hg := h.first
  have hm := (lv_facts h).2.2
  have hb := fun i j (a : i ≤ N.length) (b : j ≤ N.length) e => bk_inj hg a b e
  have hget := atl_get hb hx out 1 ho.le
  have hn : ((mget (atl N out 1) (bk N x)).getD (.int .i64 0)) = .int .i64 (num out x) ∧ (mget (atl N out 1) (bk N x)).isSome = decide (x ∈ out) := by
    rw [hget]
    unfold num
    by_cases hmem : x ∈ out
    · simp [hmem]; omega
    · simp [hmem]
  have h1 := hm.run_lookup_ok Try.underlying63 Try.underlying59 hi hsz zero_int (bk_pok hg x) (atl_pok (bk_pok hg) out 1)
  have h2 := hm.run_lookup Try.underlying63 Try.underlying59 hi hsz zero_int (bk_pok hg x) (atl_pok (bk_pok hg) out 1)
  rw [hn.1, hn.2] at h1
  rw [hn.1] at h2
  exact ⟨h1, h2⟩
set_option maxHeartbeats 2000000 in
theorem meet_in {xs : List Nat} {L j0 : Nat} (h : SepO W oo w (gparts g H lar hs N ++ lv M O mg A c N out)) (hL : (gparts g H lar hs N)[j0]? = some (blkP L 59 (pvs N xs))) (hx : ∀ x ∈ xs, x ≤ N.length) (hxl : xs.length ≤ 64) (ho : OutOk N.length out) (hN : N.length ≤ 1000) :
    Calls Try.prog 37 #[slv L xs.length, pt M, pt O] w fun e w' => e = .returned (.tuple #[]) ∧ ∃ A' c', SepO W oo w' (gparts g H lar hs N ++ lv M O mg A' c' N (meetL out xs)) := by
  obtain ⟨i, hi, hz, hs', hby⟩ := info_parts info_node
  obtain ⟨ii, hii, hsz⟩ := node_info
  have H0 := Lib.hid h
  have HL := Lib.hid hL
  have HX := Lib.hid hx
  have HO := Lib.hid ho
  clear h hL hx ho
  go_enter Try.func37, Try.ntmps37
  go_wp2_with fail
  go_loopg [10] xs.length (fun gk z wr => ∃ (j : Nat) (A : Option Addr) (c : Nat), j + gk = xs.length ∧ z = .int .i64 j ∧ SepO W oo wr (gparts g H lar hs N ++ lv M O mg A c N (meetL out (xs.take j))))
  case atStart => exact ⟨0, A, c, by omega, rfl, H0.out⟩
  case round =>
    obtain ⟨j, A1, c1, hj, rfl, h⟩ := hrel
    have HJ := Lib.hid hj
    have hjl : j ≤ xs.length := by omega
    clear hj
    have ho1 : OutOk N.length (meetL out (xs.take j)) := HO.out.meet (fun x hx => HX.out x (List.mem_of_mem_take hx))
    by_cases hlt : j < xs.length
    · obtain ⟨x, hxe⟩ : ∃ x, xs[j]?.getD 0 = x := ⟨_, rfl⟩
      have hxx : xs[j] = x := by rw [← hxe]; simp [hlt]
      have hxN : x ≤ N.length := by rw [← hxx]; exact HX.out _ (List.getElem_mem _)
      have hstep := meet_take hlt out
      rw [hxx] at hstep
      have cL : wr.cell? ⟨L, j, none⟩ = some (pv N x) := by rw [(h.blk j0 (at_left HL.out)).cell, pvs_get hlt, hxe]
      obtain ⟨f1, f2, f3⟩ := lv_facts h
      have cM := f1.cell 0
      have cO := f2.cell 0
      simp at cM cO
      have fO := f2.frozen 0
      have hlook := (lv_look h ho1 hxN).1
      generalize meetL out (xs.take j) = o1 at *
      by_cases x0 : x = 0
      · subst x0
        have e0 : pv N 0 = .pointer none := rfl
        rw [e0] at cL hlook
        rw [if_pos (.inl rfl)] at hstep
        have HS := Lib.hid hstep
        have H1 := Lib.hid h
        clear hstep h hxe hxx f1 f2 f3 ho1
        go_wp2_with fail
        go_roundg (gk - 1)
        case measure => have := HJ.out; omega
        case rel => exact ⟨j + 1, A1, c1, by have := HJ.out; omega, by go_num, by rw [HS.out]; exact H1.out⟩
      · obtain ⟨b, hb⟩ : ∃ b, bk N x = some b := by
          unfold bk
          rw [if_neg x0, List.getElem?_eq_getElem (by omega)]
          exact ⟨_, rfl⟩
        have e0 : pv N x = pt b := by unfold pv; rw [hb]; rfl
        rw [e0] at cL hlook
        by_cases hm : x ∈ o1
        · rw [if_pos (.inr hm)] at hstep
          rw [show decide (x ∈ o1) = true from by simpa using hm] at hlook
          have HS := Lib.hid hstep
          have H1 := Lib.hid h
          clear hstep h hxe hxx f1 f2 f3 ho1 hb e0 hm
          go_wp2_with fail
          go_roundg (gk - 1)
          case measure => have := HJ.out; omega
          case rel => exact ⟨j + 1, A1, c1, by have := HJ.out; omega, by go_num, by rw [HS.out]; exact H1.out⟩
        · rw [if_neg (fun h => h.elim x0 hm)] at hstep
          rw [show decide (x ∈ o1) = false from by simpa using hm] at hlook
          have ho2 := ho1.add x0 hxN hm
          have hol := ho1.len
          have HS := Lib.hid hstep
          have H1 := Lib.hid h
          have HM := Lib.hid hm
          have HB := Lib.hid hb
          have HE := Lib.hid e0
          have HO1 := Lib.hid ho1
          clear hstep h hxe hxx f3 ho1 hb e0 hm
          go_wp2_with (at_builtin; refine wpList_append_sep rfl _ _ 49 rfl 59 i (.pointer none) 8 Try.underlying49 hi hz hs' hby rfl A1 o1.length c1 (o1.map (pv N)) rfl wr.heap.size (pt b) rfl (H1.out.alloc _) ((gparts g H lar hs N).length + 3) (by simp [lv]) ?c1 rfl ?c2 ?c3 ?_)
          case c1 => exact (Blk.new _ _ _).cell 0
          case c2 => omega
          case c3 => omega
          intro A2 c2 w2 h2
          try rw [List.set_append_right _ _ (by omega), Nat.add_sub_cancel_left] at h2
          replace h2 : SepO W oo w2 (gparts g H lar hs N ++ [blkP M 63 #[.map (some mg)], blkP O 49 #[.slice A1 o1.length c1], pmapP mg (atl N o1 1), rowP 59 A2 (o1.length + 1) c2 (o1.map (pv N) ++ [pt b])]) := h2
          have g1 := h2.blk (gparts g H lar hs N).length (g := M) (t := 63) (cs := #[.map (some mg)]) (by simp)
          have g2 := h2.blk ((gparts g H lar hs N).length + 1) (g := O) (t := 49) (cs := #[.slice A1 o1.length c1]) (by simp)
          have hOM : ¬ O = M := (g2.ne_ g1 (by decide))
          have hMO : ¬ M = O := fun e => hOM e.symm
          have dM := g1.cell 0
          have dO := g2.cell 0
          simp at dM dO
          have zO := g2.frozen 0
          have h3 := h2.set_blk ((gparts g H lar hs N).length + 1) (g := O) (t := 49) (cs := #[.slice A1 o1.length c1]) (by simp) 0 (.slice A2 (o1.length + 1) c2)
          try rw [List.set_append_right _ _ (by omega), Nat.add_sub_cancel_left] at h3
          replace h3 : SepO W oo (w2.setCell ⟨O, 0, none⟩ (.slice A2 (o1.length + 1) c2)) (gparts g H lar hs N ++ [blkP M 63 #[.map (some mg)], blkP O 49 #[.slice A2 (o1.length + 1) c2], pmapP mg (atl N o1 1), rowP 59 A2 (o1.length + 1) c2 (o1.map (pv N) ++ [pt b])]) := h3
          have hpok := fun i => bk_pok h3.first i
          have H3 := Lib.hid h3
          have HP := Lib.hid hpok
          clear h3 h2 g1 g2 f1 f2 cM cO fO hpok
          go_wp2_with (at_mapUpdate; go_loud (refine wpList_pupdate_sep (g := mg) (al := atl N o1 1) rfl _ _ _ 63 rfl Try.underlying63 Try.underlying59 hii hsz H3.out ((gparts g H lar hs N).length + 2) (by simp) (some b) (.int .i64 ((o1.length + 1 : Nat) : Int)) ?e1 ?e2 rfl rfl ?e3 ?_))
          case e1 => have := HP.out x; rw [HB.out] at this; exact this
          case e2 => exact atl_pok HP.out o1 1
          case e3 => first | rfl | go_num
          intro w4 h4
          try rw [List.set_append_right _ _ (by omega), Nat.add_sub_cancel_left] at h4
          have h5 : SepO W oo w4 (gparts g H lar hs N ++ lv M O mg A2 c2 N (o1 ++ [x])) := by
            have e : mput (atl N o1 1) (some b) (.int .i64 ((o1.length + 1 : Nat) : Int)) = atl N (o1 ++ [x]) 1 := by
              rw [atl_app, HB.out, show 1 + o1.length = o1.length + 1 by omega]
              refine mput_new ?_ _
              have hget := atl_get (fun i j a b e => bk_inj H1.out.first a b e) hxN o1 1 HO1.out.le
              rw [HB.out, if_neg HM.out] at hget
              exact hget
            have h4' : SepO W oo w4 (gparts g H lar hs N ++ [blkP M 63 #[.map (some mg)], blkP O 49 #[.slice A2 (o1.length + 1) c2], pmapP mg (mput (atl N o1 1) (some b) (.int .i64 ((o1.length + 1 : Nat) : Int))), rowP 59 A2 (o1.length + 1) c2 (o1.map (pv N) ++ [pt b])]) := by simpa using h4
            rw [e] at h4'
            replace h4 := h4'
            unfold lv
            rw [List.length_append, List.map_append, List.map_cons, List.map_nil, HE.out]
            exact h4
          have H5 := Lib.hid h5
          clear h4 h5
          go_wp2_with fail
          go_roundg (gk - 1)
          case measure => have := HJ.out; omega
          case rel => exact ⟨j + 1, A2, c2, by have := HJ.out; omega, by go_num, by rw [HS.out]; exact H5.out⟩
    · have hjx : j = xs.length := by omega
      rw [List.take_of_length_le (by omega)] at h
      have H1 := Lib.hid h
      clear h ho1
      go_wp2_with fail
      first | go_end0 | (refine bodyPost_ret (results_none rfl _ _ _) rfl ?_)
      exact ⟨rfl, A1, c1, H1.out⟩
end
end Go.Proofs.Ytoldhaomacnigaa.Gr
