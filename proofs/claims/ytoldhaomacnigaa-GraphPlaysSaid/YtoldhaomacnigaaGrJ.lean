/- Contracts of package graph: Nodes. No condition. -/
import Derived.Test.YtoldhaomacnigaaGrI
import Derived.Deep.RegionHeld3
set_option linter.unusedVariables false
set_option linter.unusedSimpArgs false
namespace Go.Proofs.Ytoldhaomacnigaa.W
section
variable {W w : World} {oo : Nat → Prop} {l T : List Pr} {P Q : Pr}
theorem SepO.weak (h : SepO W oo w l) (k : Nat) (hk : l[k]? = some P) (hi : ∀ w o, P.p w o → Q.p w o) : SepO W oo w (l.set k Q) := by
  obtain ⟨o, hp, _, hup⟩ := h.open_ k hk
  exact hup w Q (Q.mono (hi w o hp) (fun i h => .inl h)) (Keep.refl _ _)
theorem SepO.pack_tail (h : SepO W oo w (l ++ T)) : SepO W oo w (l ++ [sepP T]) := by
  obtain ⟨own, hkp, hs⟩ := h
  refine ⟨fun i => if own i < l.length then own i else if own i < l.length + T.length then l.length else l.length + 1, hkp, fun j R hj => ?_⟩
  rcases Nat.lt_or_ge j l.length with hlt | hge
  · rw [List.getElem?_append_left hlt] at hj
    exact R.mono (hs j R (by rw [List.getElem?_append_left hlt]; exact hj)) (fun i hi => ⟨hi.1, by simp only []; rw [hi.2, if_pos hlt]⟩)
  · rw [List.getElem?_append_right hge] at hj
    have h0 : j - l.length = 0 := by
      rcases Nat.eq_zero_or_pos (j - l.length) with h | h
      · exact h
      · rw [List.getElem?_eq_none (by simp; omega)] at hj; cases hj
    rw [h0] at hj
    simp at hj
    subst hj
    have hjl : j = l.length := by omega
    subst hjl
    refine ⟨fun i => own i - l.length, fun m P hP => P.mono (hs (l.length + m) P (by rw [List.getElem?_append_right (by omega), Nat.add_sub_cancel_left]; exact hP)) (fun i hi => ?_)⟩
    have hm := (List.getElem?_eq_some_iff.1 hP).1
    have h2 := hi.2
    exact ⟨⟨⟨hi.1, by simp only []; rw [if_neg (by omega), if_pos (by omega)]⟩, hi.1.2⟩, by show own i - l.length = m; omega⟩
end
/-- A row of a node that is told, as it was made. -/
structure NR where
  pA : Option Addr
  pc : Nat
  sA : Option Addr
  ptrs : List Int
  scal : List Int
abbrev NR.pv (r : NR) : Value := .slice r.pA r.ptrs.length r.pc
abbrev NR.sv (r : NR) : Value := .slice r.sA r.scal.length r.scal.length
def ncl (r : NR) : List Value := [r.pv, r.sv]
def npt (r : NR) : List Pr := [rowP 3 r.pA r.ptrs.length r.pc (r.ptrs.map (Value.int .i64)), rowP 28 r.sA r.scal.length r.scal.length (r.scal.map (Value.int .u64))]
def NR.n2 (r : NR) : N2 := ⟨r.pv, r.sv, r.ptrs, r.scal⟩
theorem fm2_get {α β : Type} {N : List α} {f : α → List β} (hf : ∀ p, (f p).length = 2) {i : Nat} {p : α} (h : N[i]? = some p) {j : Nat} (hj : j < 2) : (N.flatMap f)[i * 2 + j]? = (f p)[j]? := by
  induction N generalizing i with
  | nil => simp at h
  | cons q r ih =>
    rw [List.flatMap_cons]
    cases i with
    | zero =>
      simp at h
      subst h
      rw [Nat.zero_mul, Nat.zero_add, List.getElem?_append_left (by rw [hf]; exact hj)]
    | succ i =>
      simp at h
      rw [List.getElem?_append_right (by rw [hf]; omega), hf, show (i + 1) * 2 + j - 2 = i * 2 + j by omega]
      exact ih h
theorem nodes_of {A : Option Addr} {n c : Nat} {rows : List NR} {L : List (List Int × List Int)} (hL : rows.map (fun r => (r.ptrs, r.scal)) = L) (hn : n = rows.length) (w : World) (o : Nat → Prop)
    (h : (sepP (rowK 45 2 (.slice A n c) n (rows.flatMap ncl) :: rows.flatMap npt)).p w o) : (NodesP (.slice A n n) L).p w o := by
  subst hn
  have h1 := SepO.enter h
  refine ⟨rows.map NR.n2, by rw [← hL, List.map_map]; rfl, ?_, ?_⟩
  · obtain ⟨A', c', e, h2, h3, h4, h5⟩ := h1.rowk 0 rfl
    simp only [Value.slice.injEq, true_and] at e
    obtain ⟨rfl, rfl⟩ := e
    refine ⟨A, rows.length, by rw [List.length_map], by rw [List.length_map]; omega, fun h0 => ?_⟩
    rw [List.length_map] at h0
    obtain ⟨g, rfl, h6, h7, h8⟩ := h5 h0
    refine ⟨g, 0, rfl, h6.1.elim id (fun hx => by omega), h6.2, fun j x hj i u hu => ?_⟩
    rw [List.getElem?_map] at hj
    cases hr : rows[j]? with
    | none => rw [hr] at hj; cases hj
    | some r =>
      rw [hr] at hj
      cases hj
      have hi2 : i < 2 := by have := (List.getElem?_eq_some_iff.1 hu).1; simpa [N2.cells] using this
      have hjl := (List.getElem?_eq_some_iff.1 hr).1
      rw [Nat.zero_add, h7 _ (by omega), fm2_get (fun p => rfl) hr hi2]
      exact hu
  · intro r hr
    obtain ⟨x, hx, rfl⟩ := List.mem_map.1 hr
    obtain ⟨j, hj, rfl⟩ := List.getElem_of_mem hx
    have e0 : (rowK 45 2 (.slice A rows.length c) rows.length (rows.flatMap ncl) :: rows.flatMap npt)[j * 2 + 0 + 1]? = some (rowP 3 rows[j].pA rows[j].ptrs.length rows[j].pc (rows[j].ptrs.map (Value.int .i64))) := by
      have := fm2_get (f := npt) (fun p => rfl) (List.getElem?_eq_getElem hj) (j := 0) (by omega)
      exact this
    have e1 : (rowK 45 2 (.slice A rows.length c) rows.length (rows.flatMap ncl) :: rows.flatMap npt)[j * 2 + 1 + 1]? = some (rowP 28 rows[j].sA rows[j].scal.length rows[j].scal.length (rows[j].scal.map (Value.int .u64))) := by
      have := fm2_get (f := npt) (fun p => rfl) (List.getElem?_eq_getElem hj) (j := 1) (by omega)
      exact this
    obtain ⟨o1, q1, q2⟩ := h1.sl (k' := .i64) _ e0
    obtain ⟨o2, q3, q4⟩ := h1.sl (k' := .u64) _ e1
    exact ⟨q1.mono (fun i hi => (q2 i hi).1.elim id (fun hx => by have := (q2 i hi).2; omega)), q3.mono (fun i hi => (q4 i hi).1.elim id (fun hx => by have := (q4 i hi).2; omega))⟩
theorem news2 (w : World) (t : TypeId) (a b : Value) : ∀ j u, [a, b][j]? = some u → (w.alloc (.cells #[a, b] t)).cell? ((⟨w.heap.size, 0, none⟩ : Addr).add j) = some u := by
  intro j u hu
  rw [Addr.add_lit, Nat.zero_add, (Blk.new w t #[a, b]).cell]
  simpa using hu
theorem SepO.row_le {W w : World} {oo : Nat → Prop} {l : List Pr} {e : TypeId} {A : Option Addr} {n c : Nat} {xs : List Value} (h : SepO W oo w (l ++ [rowP e A n c xs])) : n ≤ c ∧ c ≤ 9223372036854775807 := by
  obtain ⟨o, hq, _⟩ := h.row (e := e) (A := A) (n := n) (c := c) (xs := xs) l.length (by simp)
  exact ⟨hq.2.1, hq.2.2.1⟩
theorem SepO.clip_last {W w : World} {oo : Nat → Prop} {l : List Pr} {e : TypeId} {A : Option Addr} {n c : Nat} {xs : List Value} (h : SepO W oo w (l ++ [rowP e A n c xs])) : SepO W oo w (l ++ [rowP e A n n xs]) := by
  have h1 := h.row_clip (e := e) (A := A) (n := n) (c := c) (xs := xs) l.length (by simp)
  rw [List.set_append_right _ _ (Nat.le_refl _), Nat.sub_self] at h1
  exact h1
end Go.Proofs.Ytoldhaomacnigaa.W
namespace Go.Proofs.Ytoldhaomacnigaa.Gr
open Go.RowKit Go.Proofs.Ytoldhaomacnigaa.W Go.Proofs.Ytoldhaomacnigaa
theorem info_nd : (Try.prog.info? 45).map (fun i => (i.zero, i.size, i.bytes)) = some (some (.agg #[.slice none 0 0, .slice none 0 0]), 2, 48) := by kernel_rfl
section
variable {W w : World} {oo : Nat → Prop} {g H : Nat} {s : GS} {N : NL}
set_option maxRecDepth 20000 in
set_option maxHeartbeats 4000000 in
theorem Nodes_in (h : SepO W oo w (gparts g H s.largest s.hs N)) (hs : s.ok) (hN : N.map (·.1) = s.nodes) (hn : N.length ≤ 1000) :
    Calls Try.prog 15 #[pt g] w fun e w' => ∃ v hv, e = .returned (.tuple #[v, hv]) ∧ SepO W oo w' (gparts g H s.largest s.hs N ++ [NodesP v (shown s), IntsP hv (helds s)]) := by
  have hN1 : N.length = s.nodes.length := by rw [← hN]; simp
  have hok := live_ok hs
  rw [← hN1] at hok
  have hol := hok.len
  obtain ⟨i, hi, hz, hs', hby⟩ := info_parts info_nd
  have hlv := live_in h hs hN hn
  have hl := hs.hlen
  obtain ⟨R, hR⟩ : ∃ R, live s = R := ⟨_, rfl⟩
  have hsh : shown s = R.map fun x => ((nod s x).refs.map (fun r => ((num R r : Nat) : Int)), (nod s x).scal) := by unfold shown; rw [hR]
  have hhe : helds s = s.hs.map fun r => ((num R r : Nat) : Int) := by unfold helds; rw [hR]
  rw [hR] at hlv hok hol
  have HLV := Lib.hid hlv
  have HS := Lib.hid hs
  have HN := Lib.hid hN
  have HN1 := Lib.hid hN1
  have HOK := Lib.hid hok
  have HSH := Lib.hid hsh
  have HHE := Lib.hid hhe
  clear hlv hs hN hN1 hok hsh hhe hR h
  go_enter Try.func15, Try.ntmps15
  go_wp2_with fail
  refine HLV.out.mono ?_
  rintro e w1 ⟨M, O, mg, A, c, rfl, h1⟩
  have H1 := Lib.hid (h1.nil_rowK 45 2)
  clear h1 HLV
  go_wp2_with fail
  go_loopg [6, 18] R.length (fun gk v z wr => ∃ (j : Nat) (B : Option Addr) (d : Nat) (rows : List NR), j + gk = R.length ∧ z = .int .i64 j ∧ v = .slice B j d ∧ rows.length = j ∧ rows.map (fun r => (r.ptrs, r.scal)) = (shown s).take j ∧ SepO W oo wr (gparts g H s.largest s.hs N ++ lv M O mg A c N R ++ (rowK 45 2 (.slice B j d) j (rows.flatMap ncl) :: rows.flatMap npt)))
  case atStart => exact ⟨0, none, 0, [], by omega, rfl, rfl, rfl, rfl, by simpa using H1.out⟩
  case round =>
    clear H1
    obtain ⟨j, B, d, rows, hj, rfl, rfl, hrl, hrm, h⟩ := hrel
    have HJ := Lib.hid hj
    have HRL := Lib.hid hrl
    have HRM := Lib.hid hrm
    have hjl : j ≤ R.length := by omega
    clear hj hrl hrm
    by_cases hlt : j < R.length
    · obtain ⟨x, hx⟩ : ∃ x, R[j]? = some x := ⟨_, List.getElem?_eq_getElem hlt⟩
      have hxm := List.mem_of_getElem? hx
      have hx1 := HOK.out.le x hxm
      rw [HN1.out] at hx1
      obtain ⟨p, hp, hp1, hpv⟩ := node_at HS.out HN.out (HOK.out.pos x hxm) hx1
      obtain ⟨G, off, rfl, hcell, hnc⟩ := row_cell h ((gparts g H s.largest s.hs N).length + 3) (e := 59) (A := A) (n := R.length) (c := c) (xs := R.map (pv N)) (by simp [lv]) hlt
      have cx : wr.cell? ⟨G, off + j, none⟩ = some (pt p.2.b) := by rw [hcell, List.getElem?_map, hx]; simp [hpv]
      have hnok := (nod_at HS.out (HOK.out.pos x hxm) hx1).2
      rw [← hp1] at hnok
      have hrl : p.1.refs.length ≤ 64 := by have := hnok.2.2; omega
      have hsl : p.1.scal.length ≤ 64 := by have := hnok.2.2; omega
      have hcc : ∀ X m, SepO W oo X (gparts g H s.largest s.hs N ++ lv M O mg (some ⟨G, off, none⟩) c N R ++ m) → X.cell? ⟨p.2.b, 0, none⟩ = some (slv p.2.r p.1.refs.length) ∧ X.cell? ⟨p.2.b, 1, none⟩ = some (slv p.2.s p.1.scal.length) := fun X m hX => by
        have h9 := g_node hX.first.first hp
        exact ⟨by have := h9.cell 0; simpa using this, by have := h9.cell 1; simpa using this⟩
      obtain ⟨y0, y1⟩ := hcc _ _ h
      have hnum := fun X m (hX : SepO W oo X (gparts g H s.largest s.hs N ++ lv M O mg (some ⟨G, off, none⟩) c N R ++ m)) => numbers_in hX (g_part hp (j := 1) (by omega)) (fun y hy => by rw [HN1.out]; exact hnok.1 y hy) hrl HOK.out
      have hclo := fun X m (hX : SepO W oo X (gparts g H s.largest s.hs N ++ lv M O mg (some ⟨G, off, none⟩) c N R ++ m)) => CloneW_sep hX (3 * (x - 1) + 2 + 2) (at_left (at_left (g_part hp (j := 2) (by omega)))) (by omega)
      have hstep : (shown s).take (j + 1) = (shown s).take j ++ [(p.1.refs.map (fun r => ((num R r : Nat) : Int)), p.1.scal)] := by
        rw [HSH.out, hp1]
        rw [List.take_succ_eq_append_getElem (by simpa using hlt)]
        congr 2
        simp only [List.getElem_map]
        have : R[j] = x := by
          rw [List.getElem?_eq_getElem hlt] at hx
          exact Option.some.inj hx
        rw [this]
      have H0 := Lib.hid h
      have HC := Lib.hid hcc
      have HNU := Lib.hid hnum
      have HCL := Lib.hid hclo
      have HST := Lib.hid hstep
      clear h hcc hnum hclo hstep hx hxm hp hp1 hpv hnok hcell hx1
      generalize hP : gparts g H s.largest s.hs N ++ lv M O mg (some ⟨G, off, none⟩) c N R = P at *
      generalize hk1 : p.1.refs.length = k1 at *
      have HK1 := Lib.hid hk1.symm
      clear hk1
      generalize hk2 : p.1.scal.length = k2 at *
      have HK2 := Lib.hid hk2
      clear hk2
      go_wp2_with fail
      have h0 := H0.out.drew
      replace y0 := (HC.out _ _ h0).1
      replace y1 := (HC.out _ _ h0).2
      go_region_held3 (fun w' => w'.cell? ⟨p.2.b, 0, none⟩ = some (slv p.2.r k1) ∧ w'.cell? ⟨p.2.b, 1, none⟩ = some (slv p.2.s k2)) (first | exact ⟨y0, y1⟩ | exact ⟨z0, z1⟩ | exact ⟨t0, t1⟩ | exact ⟨q0, q1⟩ | go_keep) ((first | (go_at_call 31; (with_reducible refine (HNU.out _ _ h0).mono ?_); rintro e w5 ⟨B1, d1, rfl, h5⟩; rw [List.append_assoc] at h5; have z0 := (HC.out _ _ h5).1; have z1 := (HC.out _ _ h5).2) | (go_at_call 33; (with_reducible refine (HCL.out _ _ h5).mono ?_); rintro e w6 ⟨A2, d2, rfl, h6⟩; have hle := h6.row_le; replace h6 := h6.clip_last; rw [List.append_assoc] at h6; have t0 := (HC.out _ _ h6).1; have t1 := (HC.out _ _ h6).2) | (go_at_call 32; (with_reducible refine (ClipW_calls _ hle.1 (by omega)).mono ?_); rintro e w7 ⟨rfl, rfl⟩) | (refine step_append_rowK rfl _ _ 35 rfl 45 i (.agg #[.slice none 0 0, .slice none 0 0]) 2 48 Try.underlying35 hi hz hs' hby rfl (by decide) (.slice B j d) j (rows.flatMap ncl) rfl (h6.alloc _) P.length (by simp) _ [.slice B1 k1 d1, .slice A2 k2 k2] rfl rfl (news2 _ _ _ _) (by intro u hu; simp at hu; rcases hu with rfl | rfl <;> rfl) (by omega) (by omega) ?_; intro A' c' w8 h8; have h9 : SepO W oo w8 (P ++ (rowK 45 2 (.slice A' (j + 1) c') (j + 1) (rows.flatMap ncl ++ [.slice B1 k1 d1, .slice A2 k2 k2]) :: (rows.flatMap npt ++ [rowP 3 B1 k1 d1 (p.1.refs.map fun x => .int .i64 ((num R x : Nat) : Int)), rowP 28 A2 k2 k2 (p.1.scal.map (Value.int .u64))]))) := (by simpa using h8); have q0 := (HC.out _ _ h9).1; have q1 := (HC.out _ _ h9).2)))
      have H9 := Lib.hid h9
      have HLE := Lib.hid hle
      clear h0 h5 h6 h8 h9 y0 y1 z0 z1 t0 t1 q0 q1 hle HNU HCL
      go_wp2_with fail
      go_roundg (gk - 1)
      case measure => have := HJ.out; omega
      case rel =>
        have e1 : k1 = (p.1.refs.map (fun r => ((num R r : Nat) : Int))).length := by rw [HK1.out]; simp
        refine ⟨j + 1, A', c', rows ++ [⟨B1, d1, A2, p.1.refs.map (fun r => ((num R r : Nat) : Int)), p.1.scal⟩], by have := HJ.out; omega, by go_num, rfl, by simp [HRL.out], by rw [List.map_append, HRM.out, HST.out]; rfl, ?_⟩
        have h9 := H9.out
        rw [List.flatMap_append, List.flatMap_append]
        simp only [List.flatMap_cons, List.flatMap_nil, List.append_nil, ncl, npt, NR.pv, NR.sv]
        rw [← e1, HK2.out, List.map_map]
        exact h9
    · have hje : j = R.length := by omega
      subst hje
      have hlen : (shown s).length = R.length := by rw [HSH.out]; simp
      have hrm := HRM.out
      rw [← hlen, List.take_length] at hrm
      have h2 := (h.pack_tail).weak (gparts g H s.largest s.hs N ++ lv M O mg A c N R).length (P := sepP (rowK 45 2 (.slice B R.length d) R.length (rows.flatMap ncl) :: rows.flatMap npt)) (Q := NodesP (.slice B R.length R.length) (shown s)) (by simp) (nodes_of hrm HRL.out.symm)
      rw [List.set_append_right _ _ (Nat.le_refl _), Nat.sub_self, List.set_cons_zero] at h2
      obtain ⟨B', d', e9, hle, hle2, _, _⟩ := h.rowk (s := 2) (e := 45) (v := .slice B R.length d) (n := R.length) (xs := rows.flatMap ncl) (gparts g H s.largest s.hs N ++ lv M O mg A c N R).length (by simp)
      simp only [Value.slice.injEq, true_and] at e9
      obtain ⟨rfl, rfl⟩ := e9
      have hnum := fun X m (hX : SepO W oo X (gparts g H s.largest s.hs N ++ lv M O mg A c N R ++ m)) => numbers_in (j0 := 1) hX rfl (fun y hy => by rw [HN1.out]; exact HS.out.hs y hy) hl HOK.out
      have hcc : ∀ X m, SepO W oo X (gparts g H s.largest s.hs N ++ lv M O mg A c N R ++ m) → X.cell? ⟨g, 0, none⟩ = some (slv H s.hs.length) := fun X m hX => by
        have h9 := g_blk hX.first.first
        have := h9.cell 0; simpa using this
      have H2 := Lib.hid h2
      have HNU := Lib.hid hnum
      have HC := Lib.hid hcc
      clear h h2 hnum hcc hrm hlen
      generalize hk : s.hs.length = k at *
      have HK := Lib.hid hk
      clear hk
      go_wp2_with fail
      have h0 := H2.out.drew
      have y0 := HC.out _ _ h0
      go_region_held3 (fun w' => w'.cell? ⟨g, 0, none⟩ = some (slv H k)) (first | exact y0 | exact z0 | go_keep) ((first | (go_at_call 34; (with_reducible refine (ClipN_calls _ hle (by omega)).mono ?_); rintro e w5 ⟨rfl, rfl⟩) | (go_at_call 31; (with_reducible refine (HNU.out _ _ h0).mono ?_); rintro e w6 ⟨B1, d1, rfl, h6⟩; have h7 := h6; rw [List.append_assoc] at h7; have z0 := HC.out _ _ h7)))
      have H6 := Lib.hid h6
      clear h6 h7 h0 y0 z0
      go_wp2_with fail
      go_ret2
      refine ⟨.slice B R.length R.length, .slice B1 k d1, rfl, ?_⟩
      have h6 := H6.out
      rw [List.append_assoc, List.append_assoc] at h6
      have h8 := h6.tail_pick [4, 5] (by decide)
      replace h8 : SepO W oo w6 (gparts g H s.largest s.hs N ++ [NodesP (.slice B R.length R.length) (shown s), rowP 3 B1 k d1 (s.hs.map fun x => .int .i64 ((num R x : Nat) : Int))]) := h8
      have h9 := h8.weak (P := rowP 3 B1 k d1 (s.hs.map fun x => .int .i64 ((num R x : Nat) : Int))) (Q := IntsP (.slice B1 k d1) (helds s)) ((gparts g H s.largest s.hs N).length + 1) (by simp) (fun w o hq => by
        have e1 : (s.hs.map fun x => Value.int .i64 ((num R x : Nat) : Int)) = (helds s).map (Value.int .i64) := by rw [HHE.out, List.map_map]; rfl
        have e2 : k = (helds s).length := by rw [HHE.out, ← HK.out]; simp
        have hq' : QR w o 3 B1 k d1 (s.hs.map fun x => .int .i64 ((num R x : Nat) : Int)) := hq
        rw [e1, e2] at hq'
        rw [e2]
        exact hq'.sl)
      rw [List.set_append_right _ _ (by omega), Nat.add_sub_cancel_left] at h9
      exact h9
end
end Go.Proofs.Ytoldhaomacnigaa.Gr
