/- Contracts of the reference's graph: Shown. No condition. -/
import Derived.Test.YtoldhaomacnigaaRgH
import Derived.Test.YtoldhaomacnigaaSepStep
set_option linter.unusedVariables false
set_option linter.unusedSimpArgs false
namespace Go.Proofs.Ytoldhaomacnigaa.Rg
open Go.RowKit Go.Proofs.Ytoldhaomacnigaa.W Go.Proofs.Ytoldhaomacnigaa Go.Proofs.Ytoldhaomacnigaa.Gr
/-- A row of what is told: its references are new, its words are the graph's own. -/
structure RR where
  A : Option Addr
  c : Nat
  ptrs : List Int
  sb : Nat
  scal : List Int
def rr2 (r : RR) : List Value := [.slice r.A r.ptrs.length r.c, slv r.sb r.scal.length]
def rrp (r : RR) : Pr := rowP 3 r.A r.ptrs.length r.c (r.ptrs.map (Value.int .i64))
def RR.n2 (r : RR) : N2 := ⟨.slice r.A r.ptrs.length r.c, slv r.sb r.scal.length, r.ptrs, r.scal⟩
theorem step_call {P : Program} {ops : Array Oper} {o : Oper} {a : Act} {w : World} {K : Act → World → Prop} {Q : Exit → Act → World → Prop} {E : Prop} (hgd : o.guard = none) (F : FuncId) (args : Array Value) (v : Value)
    (hx : (execOp a.eval o).run P w = .ok (.enter F args) w) (hc : Calls P F args w fun e w' => e = .returned v ∧ w = w') (hw : K (a.put o.dst v) w) : if Region.wanted o (yielded ops a.tmps) = true then Oper.wp P o a w K Q else E := by
  rw [if_pos (by simp [Region.wanted, hgd])]
  unfold Oper.wp
  rw [hx, Oper.upon_enter]
  refine hc.mono ?_
  rintro e w' ⟨rfl, rfl⟩
  exact hw
theorem wpList_append_last {W w : World} {oo : Nat → Prop} {l : List Pr} {G : Program} {ops : Array Oper} {rest : List Oper} {o : Oper} {a : Act} {Q : Exit → Act → World → Prop} (hgd : o.guard = none) (s x : Operand) (t : TypeId)
    (ho : o.op = .call { callee := .builtin .append, args := #[s, x], argTypes := #[t, t] })
    (e : TypeId) (i : TypeInfo) (z : Value) (bytes : Nat) (ht : G.underlying t = some (.slice e)) (hi : G.info? e = some i) (hz : i.zero = some z) (hs : i.size = 1) (hby : i.bytes = bytes) (hzc : z.cells.size = 1)
    (A : Option Addr) (n c : Nat) (xs : List Value) (hsv : a.eval s = .slice A n c) (B : Nat) (u : Value) (hxv : a.eval x = .slice (some ⟨B, 0, none⟩) 1 1)
    (h : SepO W oo w (l ++ [rowP e A n c xs])) (hcell : w.cell? ⟨B, 0, none⟩ = some u) (h1 : u.oneCell' = true)
    (h63 : n + 1 ≤ 9223372036854775807) (hbytes : (n + 1) * bytes ≤ 140737488355328)
    (hw : ∀ A' c' w', SepO W oo w' (l ++ [rowP e A' (n + 1) c' (xs ++ [u])]) → wpList G ops Q rest (a.put o.dst (.slice A' (n + 1) c')) w') : wpList G ops Q (o :: rest) a w :=
  wpList_append_sep hgd s x t ho e i z bytes ht hi hz hs hby hzc A n c xs hsv B u hxv h l.length at_last hcell h1 h63 hbytes (fun A' c' w' h' => hw A' c' w' (by rw [List.set_append_right _ _ (Nat.le_refl _), Nat.sub_self] at h'; exact h'))
theorem x_set {W w : World} {oo : Nat → Prop} {Q : List Pr} {a r : Pr} {X : Nat} {t : TypeId} {u v : Value} (h : SepO W oo w (Q ++ [a, blkP X t #[u, v]] ++ [r])) (u' : Value) : SepO W oo (w.setCell ⟨X, 0, none⟩ u') (Q ++ [a, blkP X t #[u', v]] ++ [r]) := by
  have e : ∀ q : Pr, Q ++ [a, q] ++ [r] = (Q ++ [a]) ++ q :: [r] := fun q => by simp
  rw [e] at h ⊢
  exact h.set_mid 0 u'
theorem at_next {l : List Pr} {a b : Pr} : (l ++ [a, b])[l.length + 1]? = some b := by
  rw [List.getElem?_append_right (by omega), Nat.add_sub_cancel_left]; rfl
theorem live_sl {W w : World} {oo : Nat → Prop} {L l : List Pr} {A : Option Addr} {c : Nat} {R : List Nat} (h : SepO W oo w (L ++ rowP 3 A R.length c (nats R) :: l)) : ∃ o, SL w o .i64 (.slice A R.length c) (R.map (fun (y : Nat) => (y : Int))) := by
  obtain ⟨o, h1, _⟩ := h.sl (k' := .i64) (e := 3) (A := A) (c := c) (L := R.map (fun (y : Nat) => (y : Int))) L.length (by rw [List.length_map, ← nats_sl]; exact at_last)
  rw [List.length_map] at h1
  exact ⟨o, h1⟩
section
variable {W w : World} {oo : Nat → Prop} {g : Nat} {s : GS} {k : RK} {N : RL}
/-- What Shown holds beside the graph. -/
abbrev shp (A : Option Addr) (c : Nat) (R : List Nat) (v : Value) (rows : List RR) : List Pr := rowP 3 A R.length c (nats R) :: rowK 45 2 v rows.length (rows.flatMap rr2) :: rows.map rrp
def RRok (N : RL) (r : RR) : Prop := ∃ (i : Nat) (p : GN × RB), N[i]? = some p ∧ r.sb = p.2.s ∧ r.scal = p.1.scal
theorem shown_ns {A A' : Option Addr} {c c' : Nat} {R : List Nat} {rows : List RR} {L : List (List Int × List Int)} {m : List Pr} (h : SepO W oo w (rparts g s.largest k s.hs N ++ shp A c R (.slice A' rows.length c') rows ++ m)) (hL : rows.map (fun r => (r.ptrs, r.scal)) = L) (hr : ∀ r ∈ rows, RRok N r) (hsl : ∀ r ∈ rows, r.scal.length ≤ 64) : NS w (fun i => i < w.heap.size) (.slice A' rows.length c') L := by
  have hlen := (rparts g s.largest k s.hs N).length
  refine ⟨rows.map RR.n2, by rw [← hL, List.map_map]; rfl, ?_, ?_⟩
  · obtain ⟨A1, c1, e, h2, h3, h4, h5⟩ := h.rowk (s := 2) (e := 45) (v := .slice A' rows.length c') (n := rows.length) (xs := rows.flatMap rr2) ((rparts g s.largest k s.hs N).length + 1) (by simp)
    simp only [Value.slice.injEq, true_and] at e
    obtain ⟨rfl, rfl⟩ := e
    refine ⟨A', c', by rw [List.length_map], by rw [List.length_map]; omega, fun h0 => ?_⟩
    rw [List.length_map] at h0
    obtain ⟨G, rfl, h6, h7, h8⟩ := h5 h0
    refine ⟨G, 0, rfl, h6.2, h6.2, fun j x hj i u hu => ?_⟩
    rw [List.getElem?_map] at hj
    cases hrr : rows[j]? with
    | none => rw [hrr] at hj; cases hj
    | some r =>
      rw [hrr] at hj
      cases hj
      have hi2 : i < 2 := by have := (List.getElem?_eq_some_iff.1 hu).1; simpa [N2.cells] using this
      have hjl := (List.getElem?_eq_some_iff.1 hrr).1
      rw [Nat.zero_add, h7 _ (by omega), fm2_get (fun p => rfl) hrr hi2]
      exact hu
  · intro r hr'
    obtain ⟨x, hx, rfl⟩ := List.mem_map.1 hr'
    obtain ⟨j, hj, rfl⟩ := List.getElem_of_mem hx
    constructor
    · obtain ⟨o1, q1, q2⟩ := h.sl (k' := .i64) (e := 3) (A := rows[j].A) (c := rows[j].c) (L := rows[j].ptrs) ((rparts g s.largest k s.hs N).length + 2 + j) (by
        rw [List.append_assoc, List.getElem?_append_right (by omega), show (rparts g s.largest k s.hs N).length + 2 + j - (rparts g s.largest k s.hs N).length = j + 2 by omega]
        show (List.map rrp rows ++ m)[j]? = _
        rw [List.getElem?_append_left (by simpa using hj)]
        simp [hj, rrp])
      exact q1.mono (fun i hi => (q2 i hi).2)
    · obtain ⟨i, p, hp, e1, e2⟩ := hr _ hx
      have hb := r_scal h.first.first hp
      show SL w _ .u64 (slv rows[j].sb rows[j].scal.length) rows[j].scal
      have hl := hsl _ hx
      rw [e1, e2] at *
      exact SL.of_blk (ok := fun i => i < w.heap.size) hb hb.lt (by omega)
set_option maxRecDepth 20000 in
set_option maxHeartbeats 16000000 in
theorem Shown_in (h : SepO W oo w (rparts g s.largest k s.hs N)) (hs : s.ok) (hN : N.map (·.1) = s.nodes) (hn : N.length ≤ 1000) :
    Calls Try.prog 16 #[pt g] w fun e w' => ∃ v hv, e = .returned (.tuple #[v, hv]) ∧ NS w' (fun i => i < w'.heap.size) v (shown s) ∧ SL w' (fun i => i < w'.heap.size) .i64 hv (helds s) ∧ SepO W oo w' (rparts g s.largest k s.hs N) := by
  have hN1 : N.length = s.nodes.length := by rw [← hN]; simp
  have hok := live_ok hs
  rw [← hN1] at hok
  have hol := hok.len
  have hlv := Live_in h hs hN hn
  obtain ⟨G, hA, _, _, hkc⟩ := r_row h
  have fc := fun (X : World) (l : List Pr) (hX : SepO W oo X (rparts g s.largest k s.hs N ++ l)) => r_cells hX
  have fn := fun (X : World) (l : List Pr) (hX : SepO W oo X (rparts g s.largest k s.hs N ++ l)) (i : Nat) (p : GN × RB) (h0 : i ≠ 0) (hp : N[i - 1]? = some p) => r_node hX.first h0 hp hA
  have fh : ∀ (X : World) (l : List Pr), SepO W oo X (rparts g s.largest k s.hs N ++ l) → ∀ j, j < s.hs.length → ∃ GB off, k.B = some ⟨GB, off, none⟩ ∧ X.cell? ⟨GB, off + j, none⟩ = some (.int .i64 ((s.hs[j]?.getD 0 : Nat) : Int)) := fun X l hX j hj => by
    obtain ⟨GB, off, hB, _, hc, _⟩ := r_hs hX.first (i := j) hj
    exact ⟨GB, off, hB, hc⟩
  rw [hA] at fc
  obtain ⟨i1, i2, i3, i4, i5⟩ := info_parts Sm.info_int
  obtain ⟨n1, n2, n3, n4, n5⟩ := info_parts info_nd
  have hhl := hs.hlen
  obtain ⟨R, hR⟩ : ∃ R, live s = R := ⟨_, rfl⟩
  have hsh : shown s = R.map fun x => ((nod s x).refs.map (fun r => ((num R r : Nat) : Int)), (nod s x).scal) := by unfold shown; rw [hR]
  have hhe : helds s = s.hs.map fun r => ((num R r : Nat) : Int) := by unfold helds; rw [hR]
  rw [hR] at hlv hok hol
  have HLV := Lib.hid hlv
  have HS := Lib.hid hs
  have HN := Lib.hid hN
  have HN1 := Lib.hid hN1
  have HOK := Lib.hid hok
  have HSH := Lib.hid hsh
  have HHE := Lib.hid hhe
  have FC := Lib.hid fc
  have FN := Lib.hid fn
  have FH := Lib.hid fh
  clear hlv hs hN hN1 hok hR h hsh hhe fc fn fh hA
  go_enter Try.func16, Try.ntmps16
  go_wp2_with fail
  refine HLV.out.mono ?_
  rintro e w1 ⟨A, c, rfl, h1⟩
  have h2 := h1.new_rowK 45 2 #[] 0 (by unfold maxLen; omega) rfl
  have H2 := Lib.hid h2
  clear h1 h2 HLV
  go_wp2_with fail
  go_loopg [5, 6] R.length (fun gk v z wr => ∃ (i : Nat) (B : Option Addr) (d : Nat) (rows : List RR), i + gk = R.length ∧ z = .int .i64 i ∧ v = .slice B i d ∧ rows.length = i ∧ rows.map (fun r => (r.ptrs, r.scal)) = (shown s).take i ∧ (∀ r ∈ rows, RRok N r) ∧ SepO W oo wr (rparts g s.largest k s.hs N ++ shp A c R (.slice B rows.length d) rows))
  case atStart => exact ⟨0, some ⟨w1.heap.size, 0, none⟩, 0, [], by omega, rfl, rfl, rfl, rfl, by simp, by simpa [shp] using H2.out⟩
  case round =>
    clear H2
    obtain ⟨i, B, d, rows, hi, rfl, rfl, hrl, hrm, hrk, h⟩ := hrel
    subst hrl
    have HI := Lib.hid hi
    have HRM := Lib.hid hrm
    have HRK := Lib.hid hrk
    have hil : rows.length ≤ R.length := by omega
    clear hi hrm hrk
    by_cases hlt : rows.length < R.length
    · obtain ⟨x, hx⟩ : ∃ x, R[rows.length] = x := ⟨_, rfl⟩
      have hxm : x ∈ R := by rw [← hx]; exact List.getElem_mem _
      have hx1 := HOK.out.le x hxm
      have hx0 := HOK.out.pos x hxm
      obtain ⟨p, hp, hp1⟩ := rnode_at HS.out HN.out hx0 (by rw [← HN1.out]; exact hx1)
      obtain ⟨Go, off, rfl, hcell, hnc⟩ := live_row h hlt
      rw [hx] at hcell
      have hcell2 := fun o => (live_row (h.alloc o) hlt)
      obtain ⟨c0, -, -⟩ := FC.out _ _ h
      have c0' := fun o => (FC.out _ _ (h.alloc o)).1
      obtain ⟨y0, y1⟩ := FN.out _ _ h x p hx0 hp
      have y0' := fun o => (FN.out _ _ (h.alloc o) x p hx0 hp).1
      have y1' := fun o => (FN.out _ _ (h.alloc o) x p hx0 hp).2
      have hcell' : ∀ o, (wr.alloc o).cell? ⟨Go, off + rows.length, none⟩ = some (.int .i64 (x : Int)) := fun o => by
        obtain ⟨G2, o2, e2, hc2, _⟩ := hcell2 o
        cases e2
        rw [hx] at hc2
        exact hc2
      have hnok := (nod_at HS.out hx0 (by rw [← HN1.out]; exact hx1)).2
      rw [← hp1] at hnok
      have hrl : p.1.refs.length ≤ 64 := by have := hnok.2.2; omega
      have hsl : p.1.scal.length ≤ 64 := by have := hnok.2.2; omega
      have frf : ∀ (X : World) (l : List Pr), SepO W oo X (rparts g s.largest k s.hs N ++ l) → ∀ j, j < p.1.refs.length → X.cell? ⟨p.2.r, j, none⟩ = some (.int .i64 ((p.1.refs[j]?.getD 0 : Nat) : Int)) := fun X l hX j hj => by
        rw [(r_refs hX.first hp).cell, List.getElem?_toArray, nats_get hj]
      have hstep : (shown s).take (rows.length + 1) = (shown s).take rows.length ++ [(p.1.refs.map (fun r => ((num R r : Nat) : Int)), p.1.scal)] := by
        rw [HSH.out, hp1, List.take_succ_eq_append_getElem (by simpa using hlt)]
        congr 2
        simp only [List.getElem_map, hx]
      have h3 := h.new_blk 45 #[slv p.2.r p.1.refs.length, slv p.2.s p.1.scal.length]
      have H3 := Lib.hid h3.drew
      have HST := Lib.hid hstep
      have HP := Lib.hid hp
      obtain ⟨L, hL⟩ : ∃ L, p.1.refs = L := ⟨_, rfl⟩
      have HL := Lib.hid hL
      simp only [hL] at frf
      have FRF := Lib.hid frf
      have hLl : p.1.refs.length = L.length := by rw [hL]
      rw [hLl] at y0 y0' hrl H3
      obtain ⟨M, hM⟩ : ∃ M, p.1.scal.length = M := ⟨_, rfl⟩
      have HM := Lib.hid hM
      rw [hM] at y1 y1' hsl H3
      clear h h3 hcell2 hstep hp frf hL hLl hM hnok hp1 hx hxm
      go_wp2_with fail
      go_cut [7] (fun v wx => ∃ Nn, v = pt Nn ∧ SepO W oo wx (rparts g s.largest k s.hs N ++ shp (some ⟨Go, off, none⟩) c R (.slice B rows.length d) rows ++ [blkP Nn 45 #[slv p.2.r L.length, slv p.2.s M]]))
      case first =>
        as_aux_lemma =>
        go_region
        all_goals
          go_wp2_with fail
          go_meet
          exact ⟨_, rfl, H3.out⟩
      case rest =>
      clear H3 c0 c0' y0 y1 y0' y1' hcell hcell'
      obtain ⟨Nn, rfl, h4⟩ := hcut
      have nb := h4.blk (rparts g s.largest k s.hs N ++ shp (some ⟨Go, off, none⟩) c R (.slice B rows.length d) rows).length at_last
      have n0' := nb.cell 0
      have n1' := nb.cell 1
      simp at n0' n1'
      have h5 := (h4.new_blk 45 #[.slice none 0 0, slv p.2.s M]).nil_row 3
      have h6 : SepO W oo (wc.alloc (.cells #[.slice none 0 0, slv p.2.s M] 45)) (rparts g s.largest k s.hs N ++ shp (some ⟨Go, off, none⟩) c R (.slice B rows.length d) rows ++ [blkP Nn 45 #[slv p.2.r L.length, slv p.2.s M], blkP wc.heap.size 45 #[.slice none 0 0, slv p.2.s M]] ++ [rowP 3 none 0 0 []]) := by
        rw [List.append_assoc (rparts g s.largest k s.hs N ++ shp (some ⟨Go, off, none⟩) c R (.slice B rows.length d) rows)] at h5
        exact h5
      have H5 := Lib.hid h6
      obtain ⟨X, hX⟩ : ∃ X, wc.heap.size = X := ⟨_, rfl⟩
      rw [hX] at H5
      clear h4 nb h5 h6
      go_wp2_with fail
      try rw [hX]
      clear hX
      obtain ⟨gz, rfl⟩ : ∃ x, x = gk := ⟨_, rfl⟩
      go_loopg [9] L.length (fun gk z wr => ∃ (j : Nat) (B' : Option Addr) (d' : Nat), j + gk = L.length ∧ z = .int .i64 j ∧ SepO W oo wr (rparts g s.largest k s.hs N ++ shp (some ⟨Go, off, none⟩) c R (.slice B rows.length d) rows ++ [blkP Nn 45 #[slv p.2.r L.length, slv p.2.s M], blkP X 45 #[.slice B' j d', slv p.2.s M]] ++ [rowP 3 B' j d' (((L.take j).map (fun r => ((num R r : Nat) : Int))).map (Value.int .i64))]))
      case atStart => exact ⟨0, none, 0, by omega, rfl, H5.out⟩
      case round =>
        clear H5 n0' n1'
        obtain ⟨j, B', d', hj, rfl, h⟩ := hrel
        have HJ := Lib.hid hj
        have hjl : j ≤ L.length := by omega
        clear hj
        have cells : ∀ (Y : World) (q : Pr) (C : Array Value), SepO W oo Y (rparts g s.largest k s.hs N ++ shp (some ⟨Go, off, none⟩) c R (.slice B rows.length d) rows ++ [blkP Nn 45 #[slv p.2.r L.length, slv p.2.s M], blkP X 45 C] ++ [q]) → Blk Y Nn 45 #[slv p.2.r L.length, slv p.2.s M] ∧ Blk Y X 45 C := fun Y q C hY =>
          ⟨hY.first.blk (rparts g s.largest k s.hs N ++ shp (some ⟨Go, off, none⟩) c R (.slice B rows.length d) rows).length at_last, hY.first.blk ((rparts g s.largest k s.hs N ++ shp (some ⟨Go, off, none⟩) c R (.slice B rows.length d) rows).length + 1) at_next⟩
        obtain ⟨b0, b1⟩ := cells _ _ _ h
        have x0 := b0.cell 0
        have x1 := b1.cell 0
        have x2 := b1.cell 1
        simp at x0 x1 x2
        by_cases hlt2 : j < L.length
        · obtain ⟨y, hy⟩ : ∃ y, L[j]?.getD 0 = y := ⟨_, rfl⟩
          have hye : L[j] = y := by rw [← hy]; simp [hlt2]
          have ch := FRF.out wr _ (by rw [List.append_assoc, List.append_assoc] at h; exact h) j hlt2
          have ch' := fun o => FRF.out (wr.alloc o) _ (by rw [List.append_assoc, List.append_assoc] at h; exact h.alloc o) j hlt2
          rw [hy] at ch
          simp only [hy] at ch'
          have x0' := fun o => (cells _ _ _ (h.alloc o)).1.cell 0
          have x1' := fun o => (cells _ _ _ (h.alloc o)).2.cell 0
          simp at x0' x1'
          have hat : ∀ Y : World, SepO W oo Y (rparts g s.largest k s.hs N ++ shp (some ⟨Go, off, none⟩) c R (.slice B rows.length d) rows ++ [blkP Nn 45 #[slv p.2.r L.length, slv p.2.s M], blkP X 45 #[.slice B' j d', slv p.2.s M]] ++ [rowP 3 B' j d' (((L.take j).map (fun r => ((num R r : Nat) : Int))).map (Value.int .i64))]) → Calls Try.prog 35 #[.slice (some ⟨Go, off, none⟩) R.length c, .int .i64 (y : Int)] Y fun e w' => e = .returned (.int .i64 (num R y)) ∧ Y = w' := fun Y hY => by
            obtain ⟨o, hsl⟩ := live_sl (L := rparts g s.largest k s.hs N) (A := some ⟨Go, off, none⟩) (c := c) (R := R) (by rw [List.append_assoc, List.append_assoc] at hY; exact hY)
            exact at_calls y _ hsl
          have hat0 := hat wr h
          have hat1 := hat wr.drew h.drew
          have hstep : (((L.take (j + 1)).map (fun r => ((num R r : Nat) : Int))).map (Value.int .i64)) = (((L.take j).map (fun r => ((num R r : Nat) : Int))).map (Value.int .i64)) ++ [.int .i64 ((num R y : Nat) : Int)] := by
            rw [List.take_succ_eq_append_getElem hlt2, hye]; simp
          have H6 := Lib.hid h
          have HC := Lib.hid cells
          have HST2 := Lib.hid hstep
          have HAT0 := Lib.hid hat0
          have HAT1 := Lib.hid hat1
          clear h cells hstep hy hye hat hat0 hat1 b0 b1
          generalize hxs : (((L.take j).map (fun r => ((num R r : Nat) : Int))).map (Value.int .i64)) = xs at *
          clear hxs
          go_wp2_with fail
          go_region_law (first | (refine step_call rfl 35 #[.slice (some ⟨Go, off, none⟩) R.length c, .int .i64 (y : Int)] (.int .i64 ((num R y : Nat) : Int)) (by first | rfl | simp [execOp, Act.eval, Act.put, go_sem]) (by first | exact HAT0.out | exact HAT1.out) ?_) | (refine step_append_sep rfl (.tmp 42) (.tmp 50) 36 rfl 3 i1 (.int .i64 0) 8 Try.underlying36 i2 i3 i4 i5 rfl B' j d' xs (by simp [Act.eval, Act.put]) wr.heap.size (.int .i64 ((num R y : Nat) : Int)) (by simp [Act.eval, Act.put]) (H6.out.drew.alloc _) ((Blk.new _ _ _).cell 0) rfl (by omega) (by omega) ?_; intro A2 c2 w2 h2; have zc := (HC.out _ _ _ h2).2.cell 0; have zf := (HC.out _ _ _ h2).2.frozen 0; simp at zc; have H7 := Lib.hid (x_set h2 (.slice A2 (j + 1) c2)); clear h2))
          all_goals
            as_aux_lemma =>
            go_wp2_with fail
            go_roundg (gk - 1)
            case measure => have := HJ.out; omega
            case rel => exact ⟨j + 1, A2, c2, by have := HJ.out; omega, by go_num, by rw [HST2.out]; exact H7.out⟩
        · have hje : j = L.length := by omega
          subst hje
          rw [List.take_length] at h
          have H6 := Lib.hid h
          have hlN : rows.length ≤ 1000 := by omega
          have nw : ∀ (Y : World), ∀ q u, [Value.slice B' L.length d', slv p.2.s M][q]? = some u → (Y.alloc (.cells #[Value.slice B' L.length d', slv p.2.s M] 45)).cell? ((⟨Y.heap.size, 0, none⟩ : Addr).add q) = some u := fun Y => news2 Y _ _ _
          have NW := Lib.hid nw
          clear h cells b0 b1 nw
          go_wp2_with (at_builtin; refine wpList_append_rowK rfl _ _ 35 rfl 45 n1 (.agg #[.slice none 0 0, .slice none 0 0]) 2 48 Try.underlying35 n2 n3 n4 n5 rfl (by decide) (.slice B rows.length d) rows.length (rows.flatMap rr2) rfl (H6.out.alloc _) ((rparts g s.largest k s.hs N).length + 1) ?c0 ⟨wr.heap.size, 0, none⟩ [.slice B' L.length d', slv p.2.s M] rfl rfl (NW.out _) ?c1 ?c2 ?c3 ?_)
          case c0 => rw [List.append_assoc, List.append_assoc, List.getElem?_append_right (by omega), Nat.add_sub_cancel_left]; rfl
          case c1 => intro u hu; simp at hu; rcases hu with rfl | rfl <;> rfl
          case c2 => omega
          case c3 => omega
          intro A2 c2 w2 h2
          have h3 : SepO W oo w2 (rparts g s.largest k s.hs N ++ shp (some ⟨Go, off, none⟩) c R (.slice A2 (rows ++ [(⟨B', d', L.map (fun r => ((num R r : Nat) : Int)), p.2.s, p.1.scal⟩ : RR)]).length c2) (rows ++ [(⟨B', d', L.map (fun r => ((num R r : Nat) : Int)), p.2.s, p.1.scal⟩ : RR)])) := by
            have h2' : SepO W oo w2 (rparts g s.largest k s.hs N ++ (([rowP 3 (some ⟨Go, off, none⟩) R.length c (nats R), rowK 45 2 (.slice A2 (rows.length + 1) c2) (rows.length + 1) (rows.flatMap rr2 ++ [.slice B' L.length d', slv p.2.s M])] ++ rows.map rrp) ++ [blkP Nn 45 #[slv p.2.r L.length, slv p.2.s M], blkP X 45 #[.slice B' L.length d', slv p.2.s M], rowP 3 B' L.length d' ((L.map (fun r => ((num R r : Nat) : Int))).map (Value.int .i64))])) := by
              first
                | exact h2
                | (rw [List.append_assoc, List.append_assoc, List.set_append_right _ _ (by omega), Nat.add_sub_cancel_left] at h2; exact h2)
                | simpa using h2
            rw [← List.append_assoc] at h2'
            have h4 := h2'.tail_pick [2] (by decide)
            have e1 : (rows ++ [(⟨B', d', L.map (fun r => ((num R r : Nat) : Int)), p.2.s, p.1.scal⟩ : RR)]).length = rows.length + 1 := by simp
            unfold shp
            rw [e1, List.flatMap_append, List.map_append]
            simp only [List.flatMap_cons, List.flatMap_nil, List.append_nil, List.map_cons, List.map_nil, rr2, rrp, List.length_map]
            rw [HM.out]
            rw [List.append_assoc] at h4
            exact h4
          have hfl : (rows ++ [(⟨B', d', L.map (fun r => ((num R r : Nat) : Int)), p.2.s, p.1.scal⟩ : RR)]).length = rows.length + 1 := by simp
          have H7 := Lib.hid h3
          have HFL := Lib.hid hfl
          clear h2 h3 hfl
          go_wp2_with fail
          go_roundg (gz - 1)
          case measure => have := HI.out; omega
          case rel => exact ⟨rows.length + 1, A2, c2, _, by have := HI.out; omega, by go_num, rfl, HFL.out, by rw [List.map_append, HRM.out, HST.out, HL.out]; rfl, fun r hr => by
              rcases List.mem_append.1 hr with hr | hr
              · exact HRK.out r hr
              · simp at hr; subst hr; exact ⟨_, p, HP.out, rfl, rfl⟩, H7.out⟩
    · have hie : rows.length = R.length := by omega
      have hlen : (shown s).length = R.length := by rw [HSH.out]; simp
      have hrm := HRM.out
      rw [hie, ← hlen, List.take_length] at hrm
      have hrs : ∀ r ∈ rows, r.scal.length ≤ 64 := fun r hr => by
        obtain ⟨i, p, hp, e1, e2⟩ := HRK.out r hr
        have hm : p.1 ∈ s.nodes := by rw [← HN.out]; exact List.mem_map_of_mem (List.mem_of_getElem? hp)
        have := (HS.out.node p.1 hm).2.2
        rw [e2]; omega
      have h2 := h.new_row 3 #[] (by simp)
      have HRM2 := Lib.hid hrm
      have HRS := Lib.hid hrs
      have H2 := Lib.hid h2
      have c1 := fun o => (FC.out (wr.alloc o) _ (by have := h.alloc o; exact this)).2.1
      have hlN : rows.length ≤ 1000 := by omega
      clear h h2 hrm hrs hlen hie
      go_wp2_with fail
      go_loopg [10, 11] s.hs.length (fun gk v z wr => ∃ (j : Nat) (C : Option Addr) (e : Nat), j + gk = s.hs.length ∧ z = .int .i64 j ∧ v = .slice C j e ∧ SepO W oo wr (rparts g s.largest k s.hs N ++ shp A c R (.slice B rows.length d) rows ++ [rowP 3 C j e (((s.hs.take j).map (fun r => ((num R r : Nat) : Int))).map (Value.int .i64))]))
      case atStart => exact ⟨0, _, _, by omega, rfl, rfl, H2.out⟩
      case round =>
        clear H2 c1
        obtain ⟨j, C, e, hj, rfl, rfl, h⟩ := hrel
        have HJ := Lib.hid hj
        have hjl : j ≤ s.hs.length := by omega
        clear hj
        have hA3 : SepO W oo wr (rparts g s.largest k s.hs N ++ (shp A c R (.slice B rows.length d) rows ++ [rowP 3 C j e (((s.hs.take j).map (fun r => ((num R r : Nat) : Int))).map (Value.int .i64))])) := by rw [← List.append_assoc]; exact h
        have c1 := (FC.out _ _ hA3).2.1
        by_cases hlt : j < s.hs.length
        · obtain ⟨GB, off, hB, ch⟩ := FH.out _ _ hA3 j hlt
          obtain ⟨y, hy⟩ : ∃ y, s.hs[j]?.getD 0 = y := ⟨_, rfl⟩
          have hye : s.hs[j] = y := by rw [← hy]; simp [hlt]
          rw [hy] at ch
          rw [hB] at c1
          obtain ⟨o, hsl⟩ := live_sl (L := rparts g s.largest k s.hs N) (A := A) (c := c) (R := R) hA3
          have hat := at_calls y _ hsl
          have hstep : (((s.hs.take (j + 1)).map (fun r => ((num R r : Nat) : Int))).map (Value.int .i64)) = (((s.hs.take j).map (fun r => ((num R r : Nat) : Int))).map (Value.int .i64)) ++ [.int .i64 ((num R y : Nat) : Int)] := by
            rw [List.take_succ_eq_append_getElem hlt, hye]; simp
          have HST := Lib.hid hstep
          have H6 := Lib.hid h
          have HAT := Lib.hid hat
          clear h hA3 hstep hsl hat hy hye hB
          generalize hxs : (((s.hs.take j).map (fun r => ((num R r : Nat) : Int))).map (Value.int .i64)) = xs at *
          clear hxs
          go_wp2_with fail
          refine HAT.out.mono ?_
          rintro e9 w9 ⟨rfl, rfl⟩
          go_wp2_with (at_builtin; refine wpList_append_last rfl _ _ 36 rfl 3 i1 (.int .i64 0) 8 Try.underlying36 i2 i3 i4 i5 rfl C j e xs rfl wr.heap.size (.int .i64 ((num R y : Nat) : Int)) rfl (H6.out.alloc _) ?c1 rfl ?c2 ?c3 ?_)
          case c1 => exact (Blk.new _ _ _).cell 0
          case c2 => omega
          case c3 => omega
          intro A2 c2 w2 h2
          have H3 := Lib.hid h2
          clear h2
          go_wp2_with fail
          go_roundg (gk - 1)
          case measure => have := HJ.out; omega
          case rel => exact ⟨j + 1, A2, c2, by have := HJ.out; omega, by go_num, rfl, by rw [HST.out, List.append_assoc]; exact H3.out⟩
        · have hje : j = s.hs.length := by omega
          subst hje
          rw [List.take_length] at h
          have e1 : (s.hs.map (fun r => ((num R r : Nat) : Int))) = helds s := HHE.out.symm
          rw [e1] at h
          have hns := shown_ns h HRM2.out HRK.out HRS.out
          obtain ⟨o, hsl, ho⟩ := h.sl (k' := .i64) (e := 3) (A := C) (c := e) (L := helds s) (rparts g s.largest k s.hs N ++ shp A c R (.slice B rows.length d) rows).length (by rw [show (helds s).length = s.hs.length from by rw [HHE.out]; simp]; exact at_last)
          rw [show (helds s).length = s.hs.length from by rw [HHE.out]; simp] at hsl
          have hsl2 := hsl.mono (fun i hi => (ho i hi).2)
          have H7 := Lib.hid h
          have HNS := Lib.hid hns
          have HSL := Lib.hid hsl2
          clear h hA3 e1 hns hsl hsl2 ho
          go_wp2_with fail
          go_ret2
          exact ⟨.slice B rows.length d, .slice C s.hs.length e, rfl, HNS.out, HSL.out, H7.out.first.first⟩
end
end Go.Proofs.Ytoldhaomacnigaa.Rg
