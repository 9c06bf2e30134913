/- Contracts of package mature: Give of what is large. No condition. -/
import Derived.Test.YtjgjablmkljfoaaMatN
set_option linter.unusedVariables false
set_option linter.unusedSimpArgs false
namespace Go.Proofs.Ytjgjablmkljfoaa.W
section
variable {W w : World} {oo : Nat → Prop} {l m : List Pr} {P : Pr}
/-- Parts are let go. -/
theorem SepO.less (h : SepO W oo w l) (hm : ∀ (j : Nat) (R : Pr), m[j]? = some R → l[j]? = some R ∨ R = emp) : SepO W oo w m := by
  obtain ⟨own, hkp, hs⟩ := h
  refine ⟨own, hkp, fun j R hj => ?_⟩
  rcases hm j R hj with h1 | h1
  · exact hs j R h1
  · subst h1; trivial
/-- A block is written whole. -/
theorem SepO.set_row {g : Nat} {t : TypeId} {cs : Array Value} (h : SepO W oo w l) (k : Nat) (hk : l[k]? = some (blkP g t cs)) (cs' : Array Value) : SepO W oo (w.setRow g cs') (l.set k (blkP g t cs')) := by
  obtain ⟨o, h1, _, hup⟩ := h.open_ k hk
  obtain ⟨hg, hb⟩ := h1
  exact hup _ (blkP g t cs') ⟨.inl hg, setRow_heap w g cs _ t _ hb⟩ ⟨rfl, rfl, rfl, by simp [World.setRow], fun x _ hx => setRow_other w g x _ (fun e => hx (e ▸ hg))⟩
end
end Go.Proofs.Ytjgjablmkljfoaa.W
namespace Go.Proofs.Ytjgjablmkljfoaa.Ma
open Go.RowKit Go.Proofs.Ytjgjablmkljfoaa.W Go.Proofs.Ytjgjablmkljfoaa.Cl
/-- Several elements are one and the same. -/
def clr {α : Type} (z : α) (i k : Nat) (l : List α) : List α := l.take i ++ List.replicate k z ++ l.drop (i + k)
theorem clr_len {α : Type} {z : α} {l : List α} {i k : Nat} (hi : i + k ≤ l.length) : (clr z i k l).length = l.length := by
  simp only [clr, List.length_append, List.length_take, List.length_drop, List.length_replicate]; omega
theorem clr_get {α : Type} {z : α} {l : List α} {i k : Nat} (hi : i + k ≤ l.length) (x : Nat) : (clr z i k l)[x]? = if i ≤ x ∧ x < i + k then some z else l[x]? := by
  unfold clr
  have l1 : (l.take i).length = i := by rw [List.length_take]; omega
  rw [List.append_assoc]
  by_cases h1 : x < i
  · rw [List.getElem?_append_left (by omega), List.getElem?_take, if_pos h1, if_neg (by omega)]
  · rw [List.getElem?_append_right (by omega), l1]
    by_cases h2 : x < i + k
    · rw [if_pos ⟨by omega, h2⟩, List.getElem?_append_left (by rw [List.length_replicate]; omega), List.getElem?_replicate, if_pos (by omega)]
    · rw [if_neg (by omega), List.getElem?_append_right (by rw [List.length_replicate]; omega), List.length_replicate, List.getElem?_drop]; congr 1; omega
theorem clr_map {α β : Type} (f : α → β) (z : α) (i k : Nat) (l : List α) : (clr z i k l).map f = clr (f z) i k (l.map f) := by
  simp [clr, List.map_take, List.map_drop]
theorem pcs_app (a b : List (Pg × Nat)) : pcs (a ++ b) = pcs a ++ pcs b := by simp [pcs]
theorem pcs_take (l : List (Pg × Nat)) (i : Nat) : (pcs l).take (i * 4) = pcs (l.take i) := by
  by_cases h : i ≤ l.length
  · have e : pcs l = pcs (l.take i) ++ pcs (l.drop i) := by rw [← pcs_app, List.take_append_drop]
    rw [e, List.take_append_of_le_length (by rw [pcs_len, List.length_take]; omega), List.take_of_length_le (by rw [pcs_len, List.length_take]; omega)]
  · rw [List.take_of_length_le (l := l) (by omega), List.take_of_length_le (by rw [pcs_len]; omega)]
theorem pcs_drop (l : List (Pg × Nat)) (i : Nat) : (pcs l).drop (i * 4) = pcs (l.drop i) := by
  by_cases h : i ≤ l.length
  · have e : pcs l = pcs (l.take i) ++ pcs (l.drop i) := by rw [← pcs_app, List.take_append_drop]
    rw [e, List.drop_append_of_le_length (by rw [pcs_len, List.length_take]; omega), List.drop_of_length_le (by rw [pcs_len, List.length_take]; omega), List.nil_append]
  · rw [List.drop_of_length_le (l := l) (by omega), List.drop_of_length_le (by rw [pcs_len]; omega)]; rfl
theorem run_clear_pages (g : Nat) (lg : List (Pg × Nat)) (i k c : Nat) (hk0 : 0 < k) (hk : i + k ≤ lg.length) (W : World) (hb : Blk W g 57 (pcs lg).toArray) (ty : TypeId) :
    (Builtin.clear_ #[50] ty #[.slice (some ⟨g, i * 4, none⟩) k c]).run Try.prog W = .ok (.tuple #[]) (W.setRow g (pcs (clr (fre, 0) i k lg)).toArray) := by
  obtain ⟨ii, hi, hz, hs, hby⟩ := info_parts info_page
  have hv : ∀ w, (zeroValue 57).run Try.prog w = .ok (.agg #[.int .i64 0, .int .i64 0, .slice none 0 0, .bool false]) w := fun w => by simp [zeroValue, typeInfo, hi, hz]
  have hzc : (Builtin.zeroCells (Value.agg #[.int .i64 0, .int .i64 0, .slice none 0 0, .bool false]).cells k).toList = pcs (List.replicate k (fre, 0)) := by
    have := pages_cells k
    rw [show (pcs (List.replicate k (fre, 0))) = ((pcs (List.replicate k (fre, 0))).toArray).toList from rfl, ← this]
    rfl
  have hst := run_storeCells_at Try.prog g (i * 4) 57 (pcs (List.replicate k (fre, 0))) 0 (pcs lg).toArray W hb (by simp [pcs_len]; omega) (fun v hv => by
    simp only [pcs, List.mem_flatMap] at hv
    obtain ⟨p, hp, hv⟩ := hv
    rw [List.eq_of_mem_replicate hp] at hv
    simp [pcells, fre, usl] at hv
    rcases hv with rfl | rfl | rfl | rfl <;> rfl)
  have e : (pcs lg).toArray.toList.take (i * 4 + 0) ++ pcs (List.replicate k (fre, 0)) ++ (pcs lg).toArray.toList.drop (i * 4 + 0 + (pcs (List.replicate k (fre, 0))).length) = pcs (clr (fre, 0) i k lg) := by
    rw [pcs_len, List.length_replicate, show i * 4 + 0 + 4 * k = (i + k) * 4 by omega, Nat.add_zero]
    show (pcs lg).take (i * 4) ++ _ ++ (pcs lg).drop ((i + k) * 4) = _
    rw [pcs_take, pcs_drop, clr, pcs_app, pcs_app]
  rw [e] at hst
  obtain ⟨m, rfl⟩ : ∃ m, k = m + 1 := ⟨k - 1, by omega⟩
  simp [Builtin.clear_, run_underlying Try.underlying50, hv, hzc, hst]
theorem run_cut_pages (g L i k : Nat) (hk0 : 0 < k) (hk : i + k ≤ L) (W : World) :
    (Instr.slice 50 (.slice (some ⟨g, 0, none⟩) L L) (some (.int .i64 (i : Int))) (some (.int .i64 ((i : Int) + (k : Int)))) none).run Try.prog W = .ok (.slice (some ⟨g, i * 4, none⟩) k (L - i)) W := by
  obtain ⟨ii, hi, hz, hs, hby⟩ := info_parts info_page
  have hel : Try.prog.elem 50 = 57 := by simp [Program.elem, Try.underlying50]
  have hu : Try.prog.underlying 50 = some (.slice (Try.prog.elem 50)) := by rw [hel]; exact Try.underlying50
  rw [run_slice_lh W 50 (some ⟨g, 0, none⟩) L L hu .i64 .i64 (i : Int) ((i : Int) + (k : Int)) (by omega) (by omega) (by omega), hel]
  have h1 : ¬ L = i := by omega
  simp [sizeOf, typeInfo, hi, hs, sliced, Result.andThen, Addr.add_lit, h1]
  omega
section
variable {W w : World} {oo : Nat → Prop} {b L : Nat} {f n : Int} {lg : List (Pg × Nat)} {l : List Pr}
theorem MW.clear (m : MW f n lg) {i k : Nat} (hk : i + k ≤ lg.length) : MW f n (clr (fre, 0) i k lg) := by
  have hf : fre.ok n := .inr ⟨by decide, rfl, by decide, by decide, fun h => absurd h (by decide)⟩
  refine ⟨m.f0, m.f1, m.n0, m.n1, by rw [clr_len hk]; exact m.len, fun x hx => ?_, fun j x hj hkk => ?_⟩
  · obtain ⟨j, hj⟩ := List.mem_iff_getElem?.1 hx
    rw [clr_get hk] at hj
    split at hj
    · cases hj; exact hf
    · exact m.page x (List.mem_of_getElem? hj)
  · rw [clr_get hk] at hj
    rw [clr_len hk]
    split at hj
    · cases hj; exact absurd hkk (by decide)
    · exact m.big j x hj hkk
theorem m_clear (h : SepO W oo w (mparts b L f n lg)) {i k : Nat} (hk : i + k ≤ lg.length) : SepO W oo (w.setRow L (pcs (clr (fre, 0) i k lg)).toArray) (mparts b L f n (clr (fre, 0) i k lg)) := by
  have h1 := h.set_row 1 rfl (pcs (clr (fre, 0) i k lg)).toArray
  refine h1.less (fun j R hj => ?_)
  match j, hj with
  | 0, hj => left; rw [← hj]; show some (blkP b _ (scells f n L lg.length)) = some (blkP b _ (scells f n L (clr (fre, 0) i k lg).length)); rw [clr_len hk]
  | 1, hj => left; rw [← hj]; rfl
  | j + 2, hj =>
    have hj' : ((clr (fre, 0) i k lg).map upart)[j]? = some R := hj
    show (lg.map upart)[j]? = some R ∨ _
    rw [clr_map, clr_get (by rw [List.length_map]; exact hk)] at hj'
    split at hj'
    · right; cases hj'; rfl
    · left; exact hj'
set_option maxRecDepth 20000 in
set_option maxHeartbeats 2000000 in
theorem Give_large (x : Int) (h : SepO W oo w (mparts b L f n lg)) (m : MW f n lg) (hx : -9223372036854775808 ≤ x ∧ x ≤ 9223372036854775807) {i k : Nat} {p : Pg × Nat} (ho : atO f n (lg.map (·.1)) x = some (i, k)) (hp : lg[i]? = some p) (hk2 : p.1.kind = 2) :
    Calls Try.prog 11 #[pt b, .int .i64 x] w fun e w' => e = .returned (.bool true) ∧ SepO W oo w' (mparts b L f n (clr (fre, 0) i (pgs n p.1.size).toNat lg)) := by
  have hc := at_in x h m hx
  rw [ho] at hc
  replace hc : Calls Try.prog 32 #[pt b, .int .i64 x] w fun e w' => e = .returned (.tuple #[.int .i64 i, .int .i64 k, .bool true]) ∧ SepO W oo w' (mparts b L f n lg) := hc
  have hil : i < lg.length := (List.getElem?_eq_some_iff.1 hp).1
  have hl := m.len
  have n1 := m.n1
  have n0 := m.n0
  obtain ⟨b1, b2, b3, b4, b5, b6⟩ := m.big_b hp hk2
  obtain ⟨g, hg⟩ : ∃ g : Nat, pgs n p.1.size = g := ⟨(pgs n p.1.size).toNat, by omega⟩
  rw [hg] at b3 b4 ⊢
  rw [Int.toNat_natCast]
  have hD : i + g ≤ lg.length := by omega
  have hD0 : 0 < g := by omega
  have HC := Lib.hid hc
  have HP := Lib.hid hp
  have HG := Lib.hid hg
  clear hc ho m h hp hg b5 b6
  go_enter Try.func11, Try.ntmps11
  go_wp2_with fail
  refine HC.out.mono ?_
  rintro e w1 ⟨rfl, h1⟩
  have c1 : w1.cell? ⟨b, 1, none⟩ = some (.int .i64 n) := (m_blk h1).cell 1
  have c2 : w1.cell? ⟨b, 2, none⟩ = some (.slice (some ⟨L, 0, none⟩) lg.length lg.length) := (m_blk h1).cell 2
  obtain ⟨p0, p1, _, _⟩ := m_page h1 HP.out
  rw [hk2] at p0
  have HB : ∀ q, Calls Try.prog 29 #[.int .i64 n, .int .i64 p.1.size] (w1.drewN q) fun e w' => e = .returned (.int .i64 g) ∧ ∃ r, w' = (w1.drewN q).drewN r := fun q => by
    rw [← HG.out]; exact Pages_calls n p.1.size _ (by omega) (by omega)
  have HB' := Lib.hid HB
  have H1 := Lib.hid h1
  clear HB h1
  go_wp2_with fail
  go_quiet ((go_at_call 29; exact Calls.quiet_of (HB'.out _)))
  have hcut := run_cut_pages L lg.length i g hD0 hD
  have c2' : (w1.drewN nq).cell? ⟨b, 2, none⟩ = some (.slice (some ⟨L, 0, none⟩) lg.length lg.length) := c2
  have h2 := H1.out.drewN nq
  have hcl := run_clear_pages L lg i g (lg.length - i) hD0 hD (w1.drewN nq) (m_list h2)
  have h3 := m_clear h2 hD
  have H3 := Lib.hid h3
  clear h2 h3 HB' HC HP HG
  go_wp2_with fail
  go_ret
  exact ⟨rfl, H3.out⟩
end
end Go.Proofs.Ytjgjablmkljfoaa.Ma
