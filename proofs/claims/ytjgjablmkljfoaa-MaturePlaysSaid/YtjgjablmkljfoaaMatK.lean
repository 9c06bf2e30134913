/- Contracts of package mature: Give, where nothing large begins; New. No condition. -/
import Derived.Test.YtjgjablmkljfoaaMatJ
set_option linter.unusedVariables false
set_option linter.unusedSimpArgs false
namespace Go.Proofs.Ytjgjablmkljfoaa.Ma
open Go.RowKit Go.Proofs.Ytjgjablmkljfoaa.W Go.Proofs.Ytjgjablmkljfoaa.Cl

/-- A page of which a cell was given back. -/
def gvP (p : Pg) (k : Nat) : Pg := if noneB (p.used.set k false) then fre else ⟨p.kind, p.size, p.used.set k false, p.pend⟩
section
variable {W w : World} {oo : Nat → Prop} {b L : Nat} {f n : Int} {lg : List (Pg × Nat)} {l : List Pr}
theorem Give_none (x : Int) (h : SepO W oo w (mparts b L f n lg)) (m : MW f n lg) (hx : -9223372036854775808 ≤ x ∧ x ≤ 9223372036854775807) (ho : atO f n (lg.map (·.1)) x = none) :
    Calls Try.prog 11 #[pt b, .int .i64 x] w fun e w' => e = .returned (.bool false) ∧ SepO W oo w' (mparts b L f n lg) := by
  have hc := at_in x h m hx
  rw [ho] at hc
  have HC := Lib.hid hc
  clear hc ho m h
  go_enter Try.func11, Try.ntmps11
  go_wp2_with fail
  refine HC.out.mono ?_
  rintro e w1 ⟨rfl, h1⟩
  go_wp2_with fail
  go_ret
  exact ⟨rfl, h1⟩
set_option maxRecDepth 20000 in
set_option maxHeartbeats 2000000 in
theorem Give_cell (x : Int) (h : SepO W oo w (mparts b L f n lg)) (m : MW f n lg) (hx : -9223372036854775808 ≤ x ∧ x ≤ 9223372036854775807) {i k : Nat} {p : Pg × Nat} (ho : atO f n (lg.map (·.1)) x = some (i, k)) (hp : lg[i]? = some p) (hk1 : p.1.kind = 1) :
    Calls Try.prog 11 #[pt b, .int .i64 x] w fun e w' => e = .returned (.bool true) ∧ ∃ lg', SepO W oo w' (mparts b L f n lg') ∧ lg'.map (·.1) = (lg.map (·.1)).set i (gvP p.1 k) := by
  obtain ⟨gv, hgv⟩ : ∃ g, gvP p.1 k = g := ⟨_, rfl⟩
  rw [hgv]
  have HGV := Lib.hid hgv
  clear hgv
  have hc := at_in x h m hx
  rw [ho] at hc
  replace hc : Calls Try.prog 32 #[pt b, .int .i64 x] w fun e w' => e = .returned (.tuple #[.int .i64 i, .int .i64 k, .bool true]) ∧ SepO W oo w' (mparts b L f n lg) := hc
  obtain ⟨-, -, q, hq, hk⟩ := atO_some ho
  rw [List.getElem?_map, hp] at hq
  cases hq
  have hku : p.1.used[k]? = some true := by
    rcases hk with ⟨h, _⟩ | ⟨_, _, _, h⟩
    · exact absurd (h.symm.trans hk1) (by decide)
    · exact h
  have hkl : k < p.1.used.length := (List.getElem?_eq_some_iff.1 hku).1
  have hil : i < lg.length := (List.getElem?_eq_some_iff.1 hp).1
  have hul := used_le (m.page p (List.mem_of_getElem? hp)) m.n1 m.n0
  have hl := m.len
  have hne : p.1.used ≠ [] := by intro h; rw [h] at hkl; simp at hkl
  have HC := Lib.hid hc
  have HP := Lib.hid hp
  have HU := Lib.hid hku
  have M := Lib.hid m
  clear hc ho m h hk hku hp
  go_enter Try.func11, Try.ntmps11
  go_wp2_with fail
  refine HC.out.mono ?_
  rintro e w1 ⟨rfl, h1⟩
  have c2 : w1.cell? ⟨b, 2, none⟩ = some (.slice (some ⟨L, 0, none⟩) lg.length lg.length) := (m_blk h1).cell 2
  obtain ⟨p0, p1, p2, p3⟩ := m_page h1 HP.out
  rw [hk1] at p0
  have hus : usl p.1 p.2 = .slice (some ⟨p.2, 0, none⟩) p.1.used.length p.1.used.length := by unfold usl; rw [if_neg (by simpa using hne)]
  rw [hus] at p2
  have hG := h1.blk (i + 2) (m_used h1 HP.out hne)
  have yG : w1.cell? ⟨p.2, k, none⟩ = some (.bool true) := by rw [hG.cell, bools_get hkl, HU.out]; rfl
  have zG := hG.frozen k
  have n1 : ¬ p.2 = b := hG.ne_ (m_blk h1) (by decide)
  have n2 : ¬ p.2 = L := hG.ne_ (m_list h1) (by decide)
  have n3 : ¬ b = p.2 := fun e => n1 e.symm
  have n4 : ¬ L = p.2 := fun e => n2 e.symm
  have h2 := m_mark h1 HP.out hne k false
  have hp2 : (lg.set i (mark p k false))[i]? = some (mark p k false) := by rw [List.getElem?_set, if_pos rfl, if_pos hil]
  have m2 := M.out.mark HP.out k false
  have hnn := none_in h2 m2 hp2
  have H2 := Lib.hid h2
  have HN := Lib.hid hnn
  have HP2 := Lib.hid hp2
  clear h1 h2 hnn hus hG m2 hp2
  go_wp2_with fail
  refine HN.out.mono ?_
  rintro e w3 ⟨rfl, rfl⟩
  have h3 := H2.out
  replace h3 : SepO W oo (w1.setCell ⟨p.2, k, none⟩ (.bool false)) (mparts b L f n (lg.set i (mark p k false))) := h3
  clear c2 p0 p1 p2 p3 yG zG H2 HN HC
  generalize w1.setCell ⟨p.2, k, none⟩ (.bool false) = w4 at h3 ⊢
  have c2 : w4.cell? ⟨b, 2, none⟩ = some (.slice (some ⟨L, 0, none⟩) lg.length lg.length) := by
    have := (m_blk h3).cell 2
    rw [List.length_set] at this
    exact this
  have hmu : (mark p k false).1.used = p.1.used.set k false := rfl
  rw [hmu]
  cases hv : noneB (p.1.used.set k false)
  · have hg : gv = ⟨p.1.kind, p.1.size, p.1.used.set k false, p.1.pend⟩ := by rw [← HGV.out]; unfold gvP; rw [hv]; rfl
    have HE := Lib.hid hg
    have H3 := Lib.hid h3
    clear h3 hg hv hmu
    go_wp2_with fail
    go_ret
    refine ⟨rfl, _, H3.out, ?_⟩
    rw [HE.out, List.map_set]; rfl
  · have hg : gv = fre := by rw [← HGV.out]; unfold gvP; rw [hv]; rfl
    have HE := Lib.hid hg
    obtain ⟨p0, p1, p2, p3⟩ := m_page h3 HP2.out
    have z0 := (m_list h3).frozen (i * 4)
    have z1 := (m_list h3).frozen (i * 4 + 1)
    have z2 := (m_list h3).frozen (i * 4 + 2)
    have z3 := (m_list h3).frozen (i * 4 + 3)
    have h5 := m_plain h3 HP2.out 0 0 false
    rw [List.set_set] at h5
    have H5 := Lib.hid h5
    clear h3 h5 hg hv hmu
    go_wp2_with fail
    go_ret
    refine ⟨rfl, _, H5.out, ?_⟩
    rw [HE.out, List.map_set]; rfl
end
end Go.Proofs.Ytjgjablmkljfoaa.Ma
