/- Texts of the whole heap, joined: MatK MatN MatL MatZ MatAw MatAx MatAwake SepTwo. No condition beside those that each lemma names. -/
import Derived.Test.YtihmkkjmnbehbaaGreatMg05
import Derived.Test.YtihmkkjmnbehbaaGreatMg01
/- Contracts of package mature: Give, where nothing large begins; New. No condition. -/
set_option linter.unusedVariables false
set_option linter.unusedSimpArgs false
namespace Go.Proofs.YtihmkkjmnbehbaaGreat.Ma
open Go.RowKit Go.Proofs.YtihmkkjmnbehbaaGreat.W Go.Proofs.YtihmkkjmnbehbaaGreat.Cl

/-- A page of which a cell was given back. -/
def gvP (p : Pg) (k : Nat) : Pg := if noneB (p.used.set k false) then fre else ⟨p.kind, p.size, p.used.set k false, p.pend⟩
section
variable {W w : World} {oo : Nat → Prop} {b L : Nat} {f n : Int} {lg : List (Pg × Nat)} {l : List Pr}
theorem Give_none (x : Int) (h : SepO W oo w (mparts b L f n lg)) (m : MW f n lg) (hx : -9223372036854775808 ≤ x ∧ x ≤ 9223372036854775807) (ho : atO f n (lg.map (·.1)) x = none) :
    Calls Tryz.prog 152 #[pt b, .int .i64 x] w fun e w' => e = .returned (.bool false) ∧ SepO W oo w' (mparts b L f n lg) := by
  have hc := at_in x h m hx
  rw [ho] at hc
  have HC := Lib.hid hc
  clear hc ho m h
  go_enter Tryz.func152, Tryz.ntmps152
  go_wp2_with fail
  refine HC.out.mono ?_
  rintro e w1 ⟨rfl, h1⟩
  go_wp2_with fail
  go_ret
  exact ⟨rfl, h1⟩
set_option maxRecDepth 20000 in
set_option maxHeartbeats 2000000 in
theorem Give_cell (x : Int) (h : SepO W oo w (mparts b L f n lg)) (m : MW f n lg) (hx : -9223372036854775808 ≤ x ∧ x ≤ 9223372036854775807) {i k : Nat} {p : Pg × Nat} (ho : atO f n (lg.map (·.1)) x = some (i, k)) (hp : lg[i]? = some p) (hk1 : p.1.kind = 1) :
    Calls Tryz.prog 152 #[pt b, .int .i64 x] w fun e w' => e = .returned (.bool true) ∧ ∃ lg', SepO W oo w' (mparts b L f n lg') ∧ lg'.map (·.1) = (lg.map (·.1)).set i (gvP p.1 k) := by
  obtain ⟨gv, hgv⟩ : ∃ g, gvP p.1 k = g := ⟨_, rfl⟩
  rw [hgv]
  have HGV := Lib.hid hgv
  clear hgv
  have hc := at_in x h m hx
  rw [ho] at hc
  replace hc : Calls Tryz.prog 44 #[pt b, .int .i64 x] w fun e w' => e = .returned (.tuple #[.int .i64 i, .int .i64 k, .bool true]) ∧ SepO W oo w' (mparts b L f n lg) := hc
  obtain ⟨-, -, q, hq, hk⟩ := atO_some ho
  rw [List.getElem?_map, hp] at hq
  cases hq
  have hku : p.1.used[k]? = some true := by
    rcases hk with ⟨h, _⟩ | ⟨_, _, _, h⟩
    · exact absurd (h.symm.trans hk1) (by decide)
    · exact h
  have hkl : k < p.1.used.length := (List.getElem?_eq_some_iff.1 hku).1
  have hil : i < lg.length := (List.getElem?_eq_some_iff.1 hp).1
  have hul := used_le (m.page p (List.mem_of_getElem? hp)) m.n1 m.n0
  have hl := m.len
  have hne : p.1.used ≠ [] := by intro h; rw [h] at hkl; simp at hkl
  have HC := Lib.hid hc
  have HP := Lib.hid hp
  have HU := Lib.hid hku
  have M := Lib.hid m
  clear hc ho m h hk hku hp
  go_enter Tryz.func152, Tryz.ntmps152
  go_wp2_with fail
  refine HC.out.mono ?_
  rintro e w1 ⟨rfl, h1⟩
  have c2 : w1.cell? ⟨b, 2, none⟩ = some (.slice (some ⟨L, 0, none⟩) lg.length lg.length) := (m_blk h1).cell 2
  obtain ⟨p0, p1, p2, p3⟩ := m_page h1 HP.out
  rw [hk1] at p0
  have hus : usl p.1 p.2 = .slice (some ⟨p.2, 0, none⟩) p.1.used.length p.1.used.length := by unfold usl; rw [if_neg (by simpa using hne)]
  rw [hus] at p2
  have hG := h1.blk (i + 2) (m_used h1 HP.out hne)
  have yG : w1.cell? ⟨p.2, k, none⟩ = some (.bool true) := by rw [hG.cell, bools_get hkl, HU.out]; rfl
  have zG := hG.frozen k
  have n1 : ¬ p.2 = b := hG.ne_ (m_blk h1) (by decide)
  have n2 : ¬ p.2 = L := hG.ne_ (m_list h1) (by decide)
  have n3 : ¬ b = p.2 := fun e => n1 e.symm
  have n4 : ¬ L = p.2 := fun e => n2 e.symm
  have h2 := m_mark h1 HP.out hne k false
  have hp2 : (lg.set i (mark p k false))[i]? = some (mark p k false) := by rw [List.getElem?_set, if_pos rfl, if_pos hil]
  have m2 := M.out.mark HP.out k false
  have hnn := none_in h2 m2 hp2
  have H2 := Lib.hid h2
  have HN := Lib.hid hnn
  have HP2 := Lib.hid hp2
  clear h1 h2 hnn hus hG m2 hp2
  go_wp2_with fail
  refine HN.out.mono ?_
  rintro e w3 ⟨rfl, rfl⟩
  have h3 := H2.out
  replace h3 : SepO W oo (w1.setCell ⟨p.2, k, none⟩ (.bool false)) (mparts b L f n (lg.set i (mark p k false))) := h3
  clear c2 p0 p1 p2 p3 yG zG H2 HN HC
  generalize w1.setCell ⟨p.2, k, none⟩ (.bool false) = w4 at h3 ⊢
  have c2 : w4.cell? ⟨b, 2, none⟩ = some (.slice (some ⟨L, 0, none⟩) lg.length lg.length) := by
    have := (m_blk h3).cell 2
    rw [List.length_set] at this
    exact this
  have hmu : (mark p k false).1.used = p.1.used.set k false := rfl
  rw [hmu]
  cases hv : noneB (p.1.used.set k false)
  · have hg : gv = ⟨p.1.kind, p.1.size, p.1.used.set k false, p.1.pend⟩ := by rw [← HGV.out]; unfold gvP; rw [hv]; rfl
    have HE := Lib.hid hg
    have H3 := Lib.hid h3
    clear h3 hg hv hmu
    go_wp2_with fail
    go_ret
    refine ⟨rfl, _, H3.out, ?_⟩
    rw [HE.out, List.map_set]; rfl
  · have hg : gv = fre := by rw [← HGV.out]; unfold gvP; rw [hv]; rfl
    have HE := Lib.hid hg
    obtain ⟨p0, p1, p2, p3⟩ := m_page h3 HP2.out
    have z0 := (m_list h3).frozen (i * 4)
    have z1 := (m_list h3).frozen (i * 4 + 1)
    have z2 := (m_list h3).frozen (i * 4 + 2)
    have z3 := (m_list h3).frozen (i * 4 + 3)
    have h5 := m_plain h3 HP2.out 0 0 false
    rw [List.set_set] at h5
    have H5 := Lib.hid h5
    clear h3 h5 hg hv hmu
    go_wp2_with fail
    go_ret
    refine ⟨rfl, _, H5.out, ?_⟩
    rw [HE.out, List.map_set]; rfl
end
end Go.Proofs.YtihmkkjmnbehbaaGreat.Ma
/- Contracts of package mature: New. No condition. -/
set_option linter.unusedVariables false
set_option linter.unusedSimpArgs false
namespace Go.Proofs.YtihmkkjmnbehbaaGreat.Ma
open Go.RowKit Go.Proofs.YtihmkkjmnbehbaaGreat.W Go.Proofs.YtihmkkjmnbehbaaGreat.Cl

theorem info_page : (Tryz.prog.info? 92).map (fun i => (i.zero, i.size, i.bytes)) = some (some (.agg #[.int .i64 0, .int .i64 0, .slice none 0 0, .bool false]), 4, 48) := by kernel_rfl
theorem pages_cells (P : Nat) : madeCells (Value.agg #[.int .i64 0, .int .i64 0, .slice none 0 0, .bool false]).cells (P * 4) = (pcs (List.replicate P (fre, 0))).toArray := by
  apply Array.ext
  · simp [madeCells, pcs_len]; omega
  · intro k h1 h2
    have hk : k < P * 4 := by simpa [madeCells] using h1
    have hp : (List.replicate P (fre, 0))[k / 4]? = some (fre, 0) := by rw [List.getElem?_replicate, if_pos (by omega)]
    have hg := pcs_get hp (j := k % 4) (by omega)
    rw [show k / 4 * 4 + k % 4 = k from by omega] at hg
    apply Option.some.inj
    rw [← Array.getElem?_eq_getElem h2, List.getElem?_toArray, hg]
    rcases (by omega : k % 4 = 0 ∨ k % 4 = 1 ∨ k % 4 = 2 ∨ k % 4 = 3) with h | h | h | h <;> rw [h] <;> simp [madeCells, Value.cells, h, pcells, fre, usl]
theorem emps {W w : World} {oo : Nat → Prop} {l : List Pr} (h : SepO W oo w l) (P : Nat) : SepO W oo w (l ++ (List.replicate P (fre, 0)).map upart) := by
  induction P with
  | zero => simpa using h
  | succ P ih =>
    rw [List.replicate_succ', List.map_append, ← List.append_assoc]
    exact ih.add (Keep.refl _ _) trivial
/-- A number cut to bounds. -/
def cut3 (lo hi x : Int) : Int := if x < lo then lo else if hi < x then hi else x
theorem New_in {W w : World} {oo : Nat → Prop} (fr ps wd : Int) (h : SepO W oo w []) :
    Calls Tryz.prog 66 #[.int .i64 fr, .int .i64 ps, .int .i64 wd] w fun e w' => ∃ b L, e = .returned (pt b) ∧ SepO W oo w' (mparts b L (cut3 0 1048576 fr) (cut3 1 256 wd) (List.replicate (cut3 0 64 ps).toNat (fre, 0))) := by
  obtain ⟨f1, hf1⟩ : ∃ m, (if 1048576 < fr then 1048576 else fr) = m := ⟨_, rfl⟩
  obtain ⟨F, hF⟩ : ∃ c, (if 0 < f1 then f1 else 0) = c := ⟨_, rfl⟩
  obtain ⟨n1, hn1⟩ : ∃ m, (if 64 < ps then 64 else ps) = m := ⟨_, rfl⟩
  obtain ⟨N, hN⟩ : ∃ c, (if 0 < n1 then n1 else 0) = c := ⟨_, rfl⟩
  obtain ⟨c1, hc1⟩ : ∃ m, (if 256 < wd then 256 else wd) = m := ⟨_, rfl⟩
  obtain ⟨C, hC⟩ : ∃ m, (if 1 < c1 then c1 else 1) = m := ⟨_, rfl⟩
  have eF : cut3 0 1048576 fr = F := by unfold cut3; rw [← hF, ← hf1]; (repeat' split) <;> omega
  have eN : cut3 0 64 ps = N ∧ 0 ≤ N ∧ N ≤ 64 := by unfold cut3; rw [← hN, ← hn1]; (repeat' split) <;> omega
  have eC : cut3 1 256 wd = C := by unfold cut3; rw [← hC, ← hc1]; (repeat' split) <;> omega
  rw [eF, eN.1, eC]
  obtain ⟨_, N0, N1⟩ := eN
  obtain ⟨D, rfl⟩ : ∃ D : Nat, N = (D : Int) := ⟨N.toNat, by omega⟩
  rw [Int.toNat_natCast]
  obtain ⟨i, hi, hz, hs, hby⟩ := info_parts info_page
  have hmk : ∀ W : World, (Instr.makeSlice 93 (.int .i64 (D : Int)) (.int .i64 (D : Int))).run Tryz.prog W = .ok (.slice (some ⟨W.heap.size, 0, none⟩) D D) (W.alloc (.cells (pcs (List.replicate D (fre, 0))).toArray 92)) := fun W => by
    have h := run_make_rowN 93 92 i _ Tryz.underlying93 hi hz .i64 .i64 D D (Nat.le_refl _) (by rw [hby]; omega) (by omega) W
    rw [h, hs, pages_cells]
  have hfin : ∀ G, w.heap.size = G → SepO W oo ((w.alloc (.cells (pcs (List.replicate D (fre, 0))).toArray 92)).alloc (.cells #[.int .i64 F, .int .i64 C, .slice (some ⟨G, 0, none⟩) D D] 95)) (mparts (G + 1) G F C (List.replicate D (fre, 0))) := fun G hG => by
    have h1 := (h.new_blk 92 (pcs (List.replicate D (fre, 0))).toArray).new_blk 95 #[.int .i64 F, .int .i64 C, .slice (some ⟨G, 0, none⟩) D D]
    simp only [World.size_alloc, hG, List.nil_append, List.cons_append] at h1
    have h2 := emps (h1.pick [1, 0] (by decide)) D
    have e : (scells F C G (List.replicate D (fre, 0)).length) = #[.int .i64 F, .int .i64 C, .slice (some ⟨G, 0, none⟩) D D] := by simp [scells]
    unfold mparts
    rw [e]
    exact h2
  have HF := Lib.hid hfin
  clear hfin h hi hz hs hby eF eC N0 N1
  go_enter Tryz.func66, Tryz.ntmps66
  go_wp2
  go_ret
  exact ⟨_, _, rfl, HF.out _ rfl⟩
end Go.Proofs.YtihmkkjmnbehbaaGreat.Ma
/- Contracts of package mature: Give of what is large. No condition. -/
set_option linter.unusedVariables false
set_option linter.unusedSimpArgs false
namespace Go.Proofs.YtihmkkjmnbehbaaGreat.W
section
variable {W w : World} {oo : Nat → Prop} {l m : List Pr} {P : Pr}
/-- Parts are let go. -/
theorem SepO.less (h : SepO W oo w l) (hm : ∀ (j : Nat) (R : Pr), m[j]? = some R → l[j]? = some R ∨ R = emp) : SepO W oo w m := by
  obtain ⟨own, hkp, hs⟩ := h
  refine ⟨own, hkp, fun j R hj => ?_⟩
  rcases hm j R hj with h1 | h1
  · exact hs j R h1
  · subst h1; trivial
/-- A block is written whole. -/
theorem SepO.set_row {g : Nat} {t : TypeId} {cs : Array Value} (h : SepO W oo w l) (k : Nat) (hk : l[k]? = some (blkP g t cs)) (cs' : Array Value) : SepO W oo (w.setRow g cs') (l.set k (blkP g t cs')) := by
  obtain ⟨o, h1, _, hup⟩ := h.open_ k hk
  obtain ⟨hg, hb⟩ := h1
  exact hup _ (blkP g t cs') ⟨.inl hg, setRow_heap w g cs _ t _ hb⟩ ⟨rfl, rfl, rfl, by simp [World.setRow], fun x _ hx => setRow_other w g x _ (fun e => hx (e ▸ hg))⟩
end
end Go.Proofs.YtihmkkjmnbehbaaGreat.W
namespace Go.Proofs.YtihmkkjmnbehbaaGreat.Ma
open Go.RowKit Go.Proofs.YtihmkkjmnbehbaaGreat.W Go.Proofs.YtihmkkjmnbehbaaGreat.Cl
/-- Several elements are one and the same. -/
def clr {α : Type} (z : α) (i k : Nat) (l : List α) : List α := l.take i ++ List.replicate k z ++ l.drop (i + k)
theorem clr_len {α : Type} {z : α} {l : List α} {i k : Nat} (hi : i + k ≤ l.length) : (clr z i k l).length = l.length := by
  simp only [clr, List.length_append, List.length_take, List.length_drop, List.length_replicate]; omega
theorem clr_get {α : Type} {z : α} {l : List α} {i k : Nat} (hi : i + k ≤ l.length) (x : Nat) : (clr z i k l)[x]? = if i ≤ x ∧ x < i + k then some z else l[x]? := by
  unfold clr
  have l1 : (l.take i).length = i := by rw [List.length_take]; omega
  rw [List.append_assoc]
  by_cases h1 : x < i
  · rw [List.getElem?_append_left (by omega), List.getElem?_take, if_pos h1, if_neg (by omega)]
  · rw [List.getElem?_append_right (by omega), l1]
    by_cases h2 : x < i + k
    · rw [if_pos ⟨by omega, h2⟩, List.getElem?_append_left (by rw [List.length_replicate]; omega), List.getElem?_replicate, if_pos (by omega)]
    · rw [if_neg (by omega), List.getElem?_append_right (by rw [List.length_replicate]; omega), List.length_replicate, List.getElem?_drop]; congr 1; omega
theorem clr_map {α β : Type} (f : α → β) (z : α) (i k : Nat) (l : List α) : (clr z i k l).map f = clr (f z) i k (l.map f) := by
  simp [clr, List.map_take, List.map_drop]
theorem pcs_app (a b : List (Pg × Nat)) : pcs (a ++ b) = pcs a ++ pcs b := by simp [pcs]
theorem pcs_take (l : List (Pg × Nat)) (i : Nat) : (pcs l).take (i * 4) = pcs (l.take i) := by
  by_cases h : i ≤ l.length
  · have e : pcs l = pcs (l.take i) ++ pcs (l.drop i) := by rw [← pcs_app, List.take_append_drop]
    rw [e, List.take_append_of_le_length (by rw [pcs_len, List.length_take]; omega), List.take_of_length_le (by rw [pcs_len, List.length_take]; omega)]
  · rw [List.take_of_length_le (l := l) (by omega), List.take_of_length_le (by rw [pcs_len]; omega)]
theorem pcs_drop (l : List (Pg × Nat)) (i : Nat) : (pcs l).drop (i * 4) = pcs (l.drop i) := by
  by_cases h : i ≤ l.length
  · have e : pcs l = pcs (l.take i) ++ pcs (l.drop i) := by rw [← pcs_app, List.take_append_drop]
    rw [e, List.drop_append_of_le_length (by rw [pcs_len, List.length_take]; omega), List.drop_of_length_le (by rw [pcs_len, List.length_take]; omega), List.nil_append]
  · rw [List.drop_of_length_le (l := l) (by omega), List.drop_of_length_le (by rw [pcs_len]; omega)]; rfl
theorem run_clear_pages (g : Nat) (lg : List (Pg × Nat)) (i k c : Nat) (hk0 : 0 < k) (hk : i + k ≤ lg.length) (W : World) (hb : Blk W g 92 (pcs lg).toArray) (ty : TypeId) :
    (Builtin.clear_ #[93] ty #[.slice (some ⟨g, i * 4, none⟩) k c]).run Tryz.prog W = .ok (.tuple #[]) (W.setRow g (pcs (clr (fre, 0) i k lg)).toArray) := by
  obtain ⟨ii, hi, hz, hs, hby⟩ := info_parts info_page
  have hv : ∀ w, (zeroValue 92).run Tryz.prog w = .ok (.agg #[.int .i64 0, .int .i64 0, .slice none 0 0, .bool false]) w := fun w => by simp [zeroValue, typeInfo, hi, hz]
  have hzc : (Builtin.zeroCells (Value.agg #[.int .i64 0, .int .i64 0, .slice none 0 0, .bool false]).cells k).toList = pcs (List.replicate k (fre, 0)) := by
    have := pages_cells k
    rw [show (pcs (List.replicate k (fre, 0))) = ((pcs (List.replicate k (fre, 0))).toArray).toList from rfl, ← this]
    rfl
  have hst := run_storeCells_at Tryz.prog g (i * 4) 92 (pcs (List.replicate k (fre, 0))) 0 (pcs lg).toArray W hb (by simp [pcs_len]; omega) (fun v hv => by
    simp only [pcs, List.mem_flatMap] at hv
    obtain ⟨p, hp, hv⟩ := hv
    rw [List.eq_of_mem_replicate hp] at hv
    simp [pcells, fre, usl] at hv
    rcases hv with rfl | rfl | rfl | rfl <;> rfl)
  have e : (pcs lg).toArray.toList.take (i * 4 + 0) ++ pcs (List.replicate k (fre, 0)) ++ (pcs lg).toArray.toList.drop (i * 4 + 0 + (pcs (List.replicate k (fre, 0))).length) = pcs (clr (fre, 0) i k lg) := by
    rw [pcs_len, List.length_replicate, show i * 4 + 0 + 4 * k = (i + k) * 4 by omega, Nat.add_zero]
    show (pcs lg).take (i * 4) ++ _ ++ (pcs lg).drop ((i + k) * 4) = _
    rw [pcs_take, pcs_drop, clr, pcs_app, pcs_app]
  rw [e] at hst
  obtain ⟨m, rfl⟩ : ∃ m, k = m + 1 := ⟨k - 1, by omega⟩
  simp [Builtin.clear_, run_underlying Tryz.underlying93, hv, hzc, hst]
theorem run_cut_pages (g L i k : Nat) (hk0 : 0 < k) (hk : i + k ≤ L) (W : World) :
    (Instr.slice 93 (.slice (some ⟨g, 0, none⟩) L L) (some (.int .i64 (i : Int))) (some (.int .i64 ((i : Int) + (k : Int)))) none).run Tryz.prog W = .ok (.slice (some ⟨g, i * 4, none⟩) k (L - i)) W := by
  obtain ⟨ii, hi, hz, hs, hby⟩ := info_parts info_page
  have hel : Tryz.prog.elem 93 = 92 := by simp [Program.elem, Tryz.underlying93]
  have hu : Tryz.prog.underlying 93 = some (.slice (Tryz.prog.elem 93)) := by rw [hel]; exact Tryz.underlying93
  rw [run_slice_lh W 93 (some ⟨g, 0, none⟩) L L hu .i64 .i64 (i : Int) ((i : Int) + (k : Int)) (by omega) (by omega) (by omega), hel]
  have h1 : ¬ L = i := by omega
  simp [sizeOf, typeInfo, hi, hs, sliced, Result.andThen, Addr.add_lit, h1]
  omega
section
variable {W w : World} {oo : Nat → Prop} {b L : Nat} {f n : Int} {lg : List (Pg × Nat)} {l : List Pr}
theorem MW.clear (m : MW f n lg) {i k : Nat} (hk : i + k ≤ lg.length) : MW f n (clr (fre, 0) i k lg) := by
  have hf : fre.ok n := .inr ⟨by decide, rfl, by decide, by decide, fun h => absurd h (by decide)⟩
  refine ⟨m.f0, m.f1, m.n0, m.n1, by rw [clr_len hk]; exact m.len, fun x hx => ?_, fun j x hj hkk => ?_⟩
  · obtain ⟨j, hj⟩ := List.mem_iff_getElem?.1 hx
    rw [clr_get hk] at hj
    split at hj
    · cases hj; exact hf
    · exact m.page x (List.mem_of_getElem? hj)
  · rw [clr_get hk] at hj
    rw [clr_len hk]
    split at hj
    · cases hj; exact absurd hkk (by decide)
    · exact m.big j x hj hkk
theorem m_clear (h : SepO W oo w (mparts b L f n lg)) {i k : Nat} (hk : i + k ≤ lg.length) : SepO W oo (w.setRow L (pcs (clr (fre, 0) i k lg)).toArray) (mparts b L f n (clr (fre, 0) i k lg)) := by
  have h1 := h.set_row 1 rfl (pcs (clr (fre, 0) i k lg)).toArray
  refine h1.less (fun j R hj => ?_)
  match j, hj with
  | 0, hj => left; rw [← hj]; show some (blkP b _ (scells f n L lg.length)) = some (blkP b _ (scells f n L (clr (fre, 0) i k lg).length)); rw [clr_len hk]
  | 1, hj => left; rw [← hj]; rfl
  | j + 2, hj =>
    have hj' : ((clr (fre, 0) i k lg).map upart)[j]? = some R := hj
    show (lg.map upart)[j]? = some R ∨ _
    rw [clr_map, clr_get (by rw [List.length_map]; exact hk)] at hj'
    split at hj'
    · right; cases hj'; rfl
    · left; exact hj'
set_option maxRecDepth 20000 in
set_option maxHeartbeats 2000000 in
theorem Give_large (x : Int) (h : SepO W oo w (mparts b L f n lg)) (m : MW f n lg) (hx : -9223372036854775808 ≤ x ∧ x ≤ 9223372036854775807) {i k : Nat} {p : Pg × Nat} (ho : atO f n (lg.map (·.1)) x = some (i, k)) (hp : lg[i]? = some p) (hk2 : p.1.kind = 2) :
    Calls Tryz.prog 152 #[pt b, .int .i64 x] w fun e w' => e = .returned (.bool true) ∧ SepO W oo w' (mparts b L f n (clr (fre, 0) i (pgs n p.1.size).toNat lg)) := by
  have hc := at_in x h m hx
  rw [ho] at hc
  replace hc : Calls Tryz.prog 44 #[pt b, .int .i64 x] w fun e w' => e = .returned (.tuple #[.int .i64 i, .int .i64 k, .bool true]) ∧ SepO W oo w' (mparts b L f n lg) := hc
  have hil : i < lg.length := (List.getElem?_eq_some_iff.1 hp).1
  have hl := m.len
  have n1 := m.n1
  have n0 := m.n0
  obtain ⟨b1, b2, b3, b4, b5, b6⟩ := m.big_b hp hk2
  obtain ⟨g, hg⟩ : ∃ g : Nat, pgs n p.1.size = g := ⟨(pgs n p.1.size).toNat, by omega⟩
  rw [hg] at b3 b4 ⊢
  rw [Int.toNat_natCast]
  have hD : i + g ≤ lg.length := by omega
  have hD0 : 0 < g := by omega
  have HC := Lib.hid hc
  have HP := Lib.hid hp
  have HG := Lib.hid hg
  clear hc ho m h hp hg b5 b6
  go_enter Tryz.func152, Tryz.ntmps152
  go_wp2_with fail
  refine HC.out.mono ?_
  rintro e w1 ⟨rfl, h1⟩
  have c1 : w1.cell? ⟨b, 1, none⟩ = some (.int .i64 n) := (m_blk h1).cell 1
  have c2 : w1.cell? ⟨b, 2, none⟩ = some (.slice (some ⟨L, 0, none⟩) lg.length lg.length) := (m_blk h1).cell 2
  obtain ⟨p0, p1, _, _⟩ := m_page h1 HP.out
  rw [hk2] at p0
  have HB : ∀ q, Calls Tryz.prog 45 #[.int .i64 n, .int .i64 p.1.size] (w1.drewN q) fun e w' => e = .returned (.int .i64 g) ∧ ∃ r, w' = (w1.drewN q).drewN r := fun q => by
    rw [← HG.out]; exact Pages_calls n p.1.size _ (by omega) (by omega)
  have HB' := Lib.hid HB
  have H1 := Lib.hid h1
  clear HB h1
  go_wp2_with fail
  go_quiet ((go_at_call 45; exact Calls.quiet_of (HB'.out _)))
  have hcut := run_cut_pages L lg.length i g hD0 hD
  have c2' : (w1.drewN nq).cell? ⟨b, 2, none⟩ = some (.slice (some ⟨L, 0, none⟩) lg.length lg.length) := c2
  have h2 := H1.out.drewN nq
  have hcl := run_clear_pages L lg i g (lg.length - i) hD0 hD (w1.drewN nq) (m_list h2)
  have h3 := m_clear h2 hD
  have H3 := Lib.hid h3
  clear h2 h3 HB' HC HP HG
  go_wp2_with fail
  go_ret
  exact ⟨rfl, H3.out⟩
end
end Go.Proofs.YtihmkkjmnbehbaaGreat.Ma
/- Contracts of package mature: no space. No condition. -/
set_option linter.unusedVariables false
set_option linter.unusedSimpArgs false
namespace Go.Proofs.YtihmkkjmnbehbaaGreat.Ma
open Go.RowKit Go.Proofs.YtihmkkjmnbehbaaGreat.W

theorem Pend_nil (x y : Int) (w : World) : Calls Tryz.prog 148 #[.pointer none] w fun e w' => e = .returned (.tuple #[]) ∧ ∃ k, w' = w.drewN k := by
  go_enter Tryz.func148, Tryz.ntmps148
  go_wp2_with fail
  first | go_end0 | refine bodyPost_ret (results_none rfl _ _ _) rfl ?_
  exact ⟨rfl, 0, rfl⟩
theorem Take_nil (x y : Int) (w : World) : Calls Tryz.prog 139 #[.pointer none, .int .i64 x] w fun e w' => e = .returned (.tuple #[.int .i64 0, .bool false]) ∧ ∃ k, w' = w.drewN k := by
  go_enter Tryz.func139, Tryz.ntmps139
  go_wp2_with fail
  go_ret2
  exact ⟨rfl, 0, rfl⟩
theorem Pending_nil (x y : Int) (w : World) : Calls Tryz.prog 149 #[.pointer none] w fun e w' => e = .returned (.tuple #[.int .i64 0, .bool false]) ∧ ∃ k, w' = w.drewN k := by
  go_enter Tryz.func149, Tryz.ntmps149
  go_wp2_with fail
  go_ret2
  exact ⟨rfl, 0, rfl⟩
theorem Page_nil (x y : Int) (w : World) : Calls Tryz.prog 150 #[.pointer none, .int .i64 x] w fun e w' => e = .returned (.tuple #[.int .i64 0, .int .i64 0]) ∧ ∃ k, w' = w.drewN k := by
  go_enter Tryz.func150, Tryz.ntmps150
  go_wp2_with fail
  go_ret2
  exact ⟨rfl, 0, rfl⟩
theorem Done_nil (x y : Int) (w : World) : Calls Tryz.prog 153 #[.pointer none, .int .i64 x] w fun e w' => e = .returned (.bool false) ∧ ∃ k, w' = w.drewN k := by
  go_enter Tryz.func153, Tryz.ntmps153
  go_wp2_with fail
  go_ret
  exact ⟨rfl, 0, rfl⟩
theorem Starts_nil (x y : Int) (w : World) : Calls Tryz.prog 151 #[.pointer none, .int .i64 x, .int .i64 y] w fun e w' => e = .returned (.slice none 0 0) ∧ ∃ k, w' = w.drewN k := by
  go_enter Tryz.func151, Tryz.ntmps151
  go_wp2_with fail
  go_ret
  exact ⟨rfl, 0, rfl⟩
theorem Free_nil (x y : Int) (w : World) : Calls Tryz.prog 108 #[.pointer none] w fun e w' => e = .returned (.int .i64 0) ∧ ∃ k, w' = w.drewN k := by
  go_enter Tryz.func108, Tryz.ntmps108
  go_wp2_with fail
  go_ret
  exact ⟨rfl, 0, rfl⟩
theorem Used_nil (x y : Int) (w : World) : Calls Tryz.prog 92 #[.pointer none] w fun e w' => e = .returned (.int .i64 0) ∧ ∃ k, w' = w.drewN k := by
  go_enter Tryz.func92, Tryz.ntmps92
  go_wp2_with fail
  go_ret
  exact ⟨rfl, 0, rfl⟩
theorem at_nil (x : Int) (w : World) : Calls Tryz.prog 44 #[.pointer none, .int .i64 x] w fun e w' => e = .returned (.tuple #[.int .i64 0, .int .i64 0, .bool false]) ∧ ∃ k, w' = w.drewN k := by
  go_enter Tryz.func44, Tryz.ntmps44
  go_wp2_with fail
  exact bodyPost_ret (v := .tuple #[.int .i64 0, .int .i64 0, .bool false]) (by simp [results, Tryz.results44, go_sem]) rfl ⟨rfl, 0, rfl⟩
theorem Size_nil (x : Int) (w : World) : Calls Tryz.prog 25 #[.pointer none, .int .i64 x] w fun e w' => e = .returned (.tuple #[.int .i64 0, .bool false]) ∧ ∃ k, w' = w.drewN k := by
  go_enter Tryz.func25, Tryz.ntmps25
  go_wp2_with fail
  refine (at_nil x _).mono ?_
  rintro e w2 ⟨rfl, k, rfl⟩
  go_wp2_with fail
  go_ret2
  exact ⟨rfl, k, rfl⟩
theorem Give_nil (x : Int) (w : World) : Calls Tryz.prog 152 #[.pointer none, .int .i64 x] w fun e w' => e = .returned (.bool false) ∧ ∃ k, w' = w.drewN k := by
  go_enter Tryz.func152, Tryz.ntmps152
  go_wp2_with fail
  refine (at_nil x _).mono ?_
  rintro e w2 ⟨rfl, k, rfl⟩
  go_wp2_with fail
  go_ret
  exact ⟨rfl, k, rfl⟩
end Go.Proofs.YtihmkkjmnbehbaaGreat.Ma
/- What 'awake' of the laws of mature computes, in numbers. No condition. -/
set_option linter.unusedVariables false
set_option linter.unusedSimpArgs false
namespace Go.Proofs.YtihmkkjmnbehbaaGreat.Ma
open Go.RowKit Go.Proofs.YtihmkkjmnbehbaaGreat.W Go.Proofs.YtihmkkjmnbehbaaGreat.Cl

/-- The pages of awake, as it goes. -/
def w0 : List Pg := List.replicate 4 fre
def w1 : List Pg := [⟨1, 6, [true, false], false⟩, fre, fre, fre]
def w2 : List Pg := [⟨1, 6, [true, false], false⟩, ⟨2, 20, [], false⟩, more, fre]
def w3 : List Pg := [⟨1, 6, [true, true], false⟩, ⟨2, 20, [], false⟩, more, fre]
def w4 : List Pg := [⟨1, 6, [false, true], false⟩, ⟨2, 20, [], false⟩, more, fre]
theorem aw1 : takeR 100 16 5 w0 = (some 100, w1) := by rfl
theorem aw2 : takeR 100 16 20 w1 = (some 116, w2) := by rfl
theorem aw3 : takeR 100 16 6 w2 = (some 106, w3) := by rfl
theorem aw4 : atO 100 16 w3 116 = some (1, 0) ∧ szO 16 w3 (some (1, 0)) = 32 := ⟨by rfl, by rfl⟩
theorem aw5 : freeN w3 = 1 ∧ usL 100 16 w3 w3 0 = 44 := ⟨by rfl, by rfl⟩
theorem aw6 : stL 100 16 0 200 w3 0 = [100, 106, 116] := by rfl
theorem aw7 : atO 100 16 w3 100 = some (0, 0) ∧ gvP ⟨1, 6, [true, true], false⟩ 0 = ⟨1, 6, [false, true], false⟩ := ⟨by rfl, by rfl⟩
theorem aw8 : atO 100 16 w4 100 = none := by rfl
end Go.Proofs.YtihmkkjmnbehbaaGreat.Ma
/- The pages of awake are what pages may be. No condition. -/
set_option linter.unusedVariables false
set_option linter.unusedSimpArgs false
namespace Go.Proofs.YtihmkkjmnbehbaaGreat.Ma
open Go.RowKit Go.Proofs.YtihmkkjmnbehbaaGreat.W Go.Proofs.YtihmkkjmnbehbaaGreat.Cl

theorem MW.of {f n : Int} {l : List Pg} {lg : List (Pg × Nat)} (e : lg.map (·.1) = l) (hf : 0 ≤ f ∧ f ≤ 1048576) (hn : 1 ≤ n ∧ n ≤ 256) (hl : l.length ≤ 64) (hp : ∀ p ∈ l, p.ok n) (hb : ∀ (i : Nat) p, l[i]? = some p → p.kind = 2 → (i : Int) + pgs n p.size ≤ l.length) : MW f n lg := by
  subst e
  refine ⟨hf.1, hf.2, hn.1, hn.2, by simpa using hl, fun p h => hp p.1 (List.mem_map_of_mem h), fun i p h hk => ?_⟩
  have := hb i p.1 (by rw [List.getElem?_map, h]; rfl) hk
  simpa using this
theorem of4 {l : List Pg} {a b c d : Pg} (e : l = [a, b, c, d]) {n : Int} (h : a.ok n ∧ b.ok n ∧ c.ok n ∧ d.ok n) (k : (a.kind = 2 → 0 + pgs n a.size ≤ 4) ∧ (b.kind = 2 → 1 + pgs n b.size ≤ 4) ∧ (c.kind = 2 → 2 + pgs n c.size ≤ 4) ∧ (d.kind = 2 → 3 + pgs n d.size ≤ 4)) :
    (∀ p ∈ l, p.ok n) ∧ ∀ (i : Nat) p, l[i]? = some p → p.kind = 2 → (i : Int) + pgs n p.size ≤ l.length := by
  subst e
  obtain ⟨h1, h2, h3, h4⟩ := h
  obtain ⟨k1, k2, k3, k4⟩ := k
  refine ⟨fun p hp => ?_, fun i p hp hk => ?_⟩
  · simp at hp
    rcases hp with rfl | rfl | rfl | rfl <;> assumption
  · match i with
    | 0 => simp at hp; subst hp; exact k1 hk
    | 1 => simp at hp; subst hp; exact k2 hk
    | 2 => simp at hp; subst hp; exact k3 hk
    | 3 => simp at hp; subst hp; exact k4 hk
    | i + 4 => simp at hp
theorem ok_fre (n : Int) : fre.ok n := .inr ⟨by decide, rfl, by decide, by decide, fun h => absurd h (by decide)⟩
theorem ok_more (n : Int) : more.ok n := .inr ⟨by decide, rfl, by decide, by decide, fun h => absurd h (by decide)⟩
theorem mw0 {lg : List (Pg × Nat)} (e : lg.map (·.1) = w0) : MW 100 16 lg :=
  have h := of4 (l := w0) rfl (n := 16) ⟨ok_fre _, ok_fre _, ok_fre _, ok_fre _⟩ (by decide)
  MW.of e (by decide) (by decide) (by decide) h.1 h.2
theorem mw1 {lg : List (Pg × Nat)} (e : lg.map (·.1) = w1) : MW 100 16 lg :=
  have h := of4 (l := w1) rfl (n := 16) ⟨.inl (by decide), ok_fre _, ok_fre _, ok_fre _⟩ (by decide)
  MW.of e (by decide) (by decide) (by decide) h.1 h.2
theorem mw2 {lg : List (Pg × Nat)} (e : lg.map (·.1) = w2) : MW 100 16 lg :=
  have h := of4 (l := w2) rfl (n := 16) ⟨.inl (by decide), .inr (by decide), ok_more _, ok_fre _⟩ (by decide)
  MW.of e (by decide) (by decide) (by decide) h.1 h.2
theorem mw3 {lg : List (Pg × Nat)} (e : lg.map (·.1) = w3) : MW 100 16 lg :=
  have h := of4 (l := w3) rfl (n := 16) ⟨.inl (by decide), .inr (by decide), ok_more _, ok_fre _⟩ (by decide)
  MW.of e (by decide) (by decide) (by decide) h.1 h.2
theorem mw4 {lg : List (Pg × Nat)} (e : lg.map (·.1) = w4) : MW 100 16 lg :=
  have h := of4 (l := w4) rfl (n := 16) ⟨.inl (by decide), .inr (by decide), ok_more _, ok_fre _⟩ (by decide)
  MW.of e (by decide) (by decide) (by decide) h.1 h.2
end Go.Proofs.YtihmkkjmnbehbaaGreat.Ma
/- awake of the laws of mature. No condition. -/
set_option linter.unusedVariables false
set_option linter.unusedSimpArgs false
namespace Go.Proofs.YtihmkkjmnbehbaaGreat.Ma
open Go.RowKit Go.Proofs.YtihmkkjmnbehbaaGreat.W Go.Proofs.YtihmkkjmnbehbaaGreat.Cl
section
variable {W w : World} {oo : Nat → Prop} {b L : Nat} {f n : Int} {lg : List (Pg × Nat)}
theorem Take_aw {x r : Int} {l l' : List Pg} (hx : x ≤ 9223372036854775807) (h : SepO W oo w (mparts b L f n lg)) (m : MW f n lg) (e : lg.map (·.1) = l) (ht : takeR f n x l = (some r, l')) :
    Calls Tryz.prog 139 #[pt b, .int .i64 x] w fun e w' => e = .returned (.tuple #[.int .i64 r, .bool true]) ∧ ∃ lg', SepO W oo w' (mparts b L f n lg') ∧ lg'.map (·.1) = l' := by
  have := Take_in x hx h m
  rw [e, ht] at this
  exact this
end
end Go.Proofs.YtihmkkjmnbehbaaGreat.Ma
/- Parts side by side: a part is split, made weaker. No condition. -/
set_option linter.unusedVariables false
set_option linter.unusedSimpArgs false
namespace Go.Proofs.YtihmkkjmnbehbaaGreat.W
open Go.RowKit
section
variable {W w : World} {oo : Nat → Prop} {l : List Pr} {P Q : Pr}
theorem SepO.split_m {A B : List Pr} (h : SepO W oo w l) (k : Nat) (hk : l[k]? = some (sepP (A ++ B))) : SepO W oo w (l.set k (sepP A) ++ B) := by
  obtain ⟨own, hkp, hs⟩ := h
  obtain ⟨own2, hs2⟩ := hs k _ hk
  have hkl := (List.getElem?_eq_some_iff.1 hk).1
  refine ⟨fun i => if own i = k then (if own2 i < A.length then k else if own2 i < A.length + B.length then l.length + (own2 i - A.length) else l.length + B.length) else if own i < l.length then own i else l.length + B.length, hkp, fun j R hj => ?_⟩
  rcases Nat.lt_or_ge j l.length with hlt | hge
  · rw [List.getElem?_append_left (by simpa using hlt), List.getElem?_set] at hj
    by_cases hjk : k = j
    · subst hjk
      rw [if_pos rfl, if_pos hkl] at hj
      injection hj with hj
      subst hj
      refine ⟨own2, fun m P hP => P.mono (hs2 m P (by rw [List.getElem?_append_left (List.getElem?_eq_some_iff.1 hP).1]; exact hP)) (fun i hi => ?_)⟩
      have hml := (List.getElem?_eq_some_iff.1 hP).1
      exact ⟨⟨⟨hi.1.1.1, by simp only []; rw [if_pos hi.1.1.2, if_pos (by have := hi.2; omega)]⟩, hi.1.2⟩, hi.2⟩
    · rw [if_neg hjk] at hj
      exact R.mono (hs j R hj) (fun i hi => ⟨hi.1, by simp only []; rw [if_neg (by have := hi.2; omega), if_pos (by have := hi.2; omega)]; exact hi.2⟩)
  · rw [List.getElem?_append_right (by simpa using hge), List.length_set] at hj
    have hjb := (List.getElem?_eq_some_iff.1 hj).1
    refine R.mono (hs2 (A.length + (j - l.length)) R (by rw [List.getElem?_append_right (by omega), Nat.add_sub_cancel_left]; exact hj)) (fun i hi => ⟨hi.1.1.1, ?_⟩)
    simp only []
    rw [if_pos hi.1.1.2, if_neg (by have := hi.2; omega), if_pos (by have := hi.2; omega)]
    have := hi.2
    omega
theorem SepO.weaken (h : SepO W oo w l) (k : Nat) (hk : l[k]? = some P) (hi : ∀ w o, P.p w o → Q.p w o) : SepO W oo w (l.set k Q) := by
  obtain ⟨o, hp, _, hup⟩ := h.open_ k hk
  exact hup w Q (Q.mono (hi w o hp) (fun i h => .inl h)) (Keep.refl _ _)
end
theorem list_same {k : Nat} {P : Pr} {l : List Pr} (h : l[k]? = some P) : l.set k P = l := by
  apply List.ext_getElem?
  intro i
  rw [List.getElem?_set]
  split
  · rename_i e
    subst e
    rw [h, if_pos (List.getElem?_eq_some_iff.1 h).1]
  · rfl
end Go.Proofs.YtihmkkjmnbehbaaGreat.W
