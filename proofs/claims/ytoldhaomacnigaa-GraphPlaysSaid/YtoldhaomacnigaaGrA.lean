/- Contracts of package graph: has, object, scalar, copy, get, set, make. No condition. -/
import Derived.Test.YtoldhaomacnigaaGrMem
import Derived.Test.YtoldhaomacnigaaSmall
import Derived.Laws.MakeOwn
import Derived.Laws.Entries
set_option linter.unusedVariables false
set_option linter.unusedSimpArgs false
namespace Go.Proofs.Ytoldhaomacnigaa.Gr
open Go.RowKit Go.Proofs.Ytoldhaomacnigaa.W

abbrev pt (b : Nat) : Value := .pointer (some ⟨b, 0, none⟩)
theorem node_at {s : GS} {N : NL} (hs : s.ok) (hN : N.map (·.1) = s.nodes) {i : Nat} (h0 : i ≠ 0) (h1 : i ≤ s.nodes.length) : ∃ p, N[i - 1]? = some p ∧ p.1 = nod s i ∧ pv N i = pt p.2.b := by
  have hl : N.length = s.nodes.length := by rw [← hN]; simp
  have e : N[i - 1]? = some (N[i - 1]'(by omega)) := List.getElem?_eq_getElem (by omega)
  refine ⟨_, e, ?_, ?_⟩
  · unfold nod; rw [← hN, List.getElem?_map, e]; rfl
  · unfold pv bk; rw [if_neg h0, e]; rfl
section
variable {W w : World} {oo : Nat → Prop} {g H : Nat} {s : GS} {N : NL}
theorem has_in (x : Int) (h : SepO W oo w (gparts g H s.largest s.hs N)) (hs : s.ok) : Calls Try.prog 23 #[pt g, .int .i64 x] w fun e w' => e = .returned (.bool (has s x)) ∧ w = w' := by
  have c0 := (g_blk h).cell 0
  simp at c0
  have hl := hs.hlen
  obtain ⟨R, hR⟩ : ∃ R, has s x = R := ⟨_, rfl⟩
  rw [hR]
  unfold has at hR
  by_cases h0 : 0 ≤ x
  · by_cases h1 : x < s.hs.length
    · have : R = true := by rw [← hR]; simp [h0, h1]
      subst this
      clear hR h
      go_enter Try.func23, Try.ntmps23
      go_wp2
      go_ret
      exact ⟨rfl, rfl⟩
    · have : R = false := by rw [← hR]; simp [h0, h1]
      subst this
      clear hR h
      go_enter Try.func23, Try.ntmps23
      go_wp2
      go_ret
      exact ⟨rfl, rfl⟩
  · have : R = false := by rw [← hR]; simp [h0]
    subst this
    clear hR h
    go_enter Try.func23, Try.ntmps23
    go_wp2
    go_ret
    exact ⟨rfl, rfl⟩
theorem object_in (x : Int) (h : SepO W oo w (gparts g H s.largest s.hs N)) (hs : s.ok) (hN : N.map (·.1) = s.nodes) :
    Calls Try.prog 36 #[pt g, .int .i64 x] w fun e w' => e = .returned (.tuple #[if wrong s x = 0 then pv N (held s x) else .pointer none, .int .i64 (wrong s x)]) ∧ w = w' := by
  have c0 := (g_blk h).cell 0
  simp at c0
  have hl := hs.hlen
  have hh := has_in x h hs
  have HH := Lib.hid hh
  clear hh
  rcases wrong_cases s x with ⟨e1, e2⟩ | ⟨e1, e2, e3⟩ | ⟨e1, e2, e3⟩
  · rw [e2]
    have HE := Lib.hid e1
    clear e1 e2 h
    go_enter Try.func36, Try.ntmps36
    go_wp2_with fail
    refine HH.out.mono ?_
    rintro e w1 ⟨rfl, rfl⟩
    rw [HE.out]
    go_wp2_with fail
    go_ret2
    exact ⟨rfl, rfl⟩
  · rw [e3]
    obtain ⟨x0, x1⟩ := (has_iff s x).1 e1
    have ch : w.cell? ⟨H, x.toNat, none⟩ = some (.pointer none) := by
      rw [(g_hs h).cell, pvs_get (by omega)]
      have : s.hs[x.toNat]?.getD 0 = 0 := e2
      rw [this]; rfl
    have HE := Lib.hid e1
    clear e1 e2 e3 h
    go_enter Try.func36, Try.ntmps36
    go_wp2_with fail
    refine HH.out.mono ?_
    rintro e w1 ⟨rfl, rfl⟩
    rw [HE.out]
    go_wp2_with fail
    go_ret2
    exact ⟨rfl, rfl⟩
  · rw [e3]
    obtain ⟨x0, x1⟩ := (has_iff s x).1 e1
    obtain ⟨p, hp, hp1, hpv⟩ := node_at hs hN e2 (held_le hs x)
    rw [hpv]
    have ch : w.cell? ⟨H, x.toNat, none⟩ = some (pt p.2.b) := by
      rw [(g_hs h).cell, pvs_get (by omega)]
      have : s.hs[x.toNat]?.getD 0 = held s x := rfl
      rw [this, hpv]
    have HE := Lib.hid e1
    clear e1 e2 e3 h hpv hp1 hp
    go_enter Try.func36, Try.ntmps36
    go_wp2_with fail
    refine HH.out.mono ?_
    rintro e w1 ⟨rfl, rfl⟩
    rw [HE.out]
    go_wp2_with fail
    go_ret2
    exact ⟨rfl, rfl⟩
theorem scalar_bad (x n E : Int) (hE : E = if wrong s x = 0 then 5 else wrong s x) (hb : wrong s x ≠ 0 ∨ inL n (nod s (held s x)).scal.length = false) (h : SepO W oo w (gparts g H s.largest s.hs N)) (hs : s.ok) (hN : N.map (·.1) = s.nodes) :
    Calls Try.prog 22 #[pt g, .int .i64 x, .int .i64 n] w fun e w' => e = .returned (.tuple #[.pointer none, .int .i64 E]) ∧ w = w' := by
  have hc := object_in x h hs hN
  rcases wrong_cases s x with ⟨e1, e2⟩ | ⟨e1, e2, e3⟩ | ⟨e1, e2, e3⟩
  · rw [e2] at hc hE
    simp at hc hE
    subst hE
    have HC := Lib.hid hc
    clear hc e1 e2 hb h hN
    go_enter Try.func22, Try.ntmps22
    go_wp2_with fail
    refine HC.out.mono ?_
    rintro e w1 ⟨rfl, rfl⟩
    go_wp2_with fail
    go_ret2
    exact ⟨rfl, rfl⟩
  · rw [e3] at hc hE
    simp at hc hE
    subst hE
    have HC := Lib.hid hc
    clear hc e1 e2 e3 hb h hN
    go_enter Try.func22, Try.ntmps22
    go_wp2_with fail
    refine HC.out.mono ?_
    rintro e w1 ⟨rfl, rfl⟩
    go_wp2_with fail
    go_ret2
    exact ⟨rfl, rfl⟩
  · rw [e3] at hc hE
    simp at hc hE
    subst hE
    have hb2 : inL n (nod s (held s x)).scal.length = false := hb.elim (fun h => absurd e3 h) id
    obtain ⟨p, hp, hp1, hpv⟩ := node_at hs hN e2 (held_le hs x)
    rw [hpv] at hc
    rw [← hp1] at hb2
    have hno := (nod_at hs e2 (held_le hs x)).2.2.2
    rw [← hp1] at hno
    have cs : w.cell? ⟨p.2.b, 1, none⟩ = some (slv p.2.s p.1.scal.length) := by have := (g_node h hp).cell 1; simpa using this
    have HC := Lib.hid hc
    generalize p.1.scal.length = m at *
    unfold inL at hb2
    clear hc e1 e2 e3 hb h hN hp hpv hp1
    by_cases n0 : 0 ≤ n
    · have n1 : ¬ n < m := by intro h; simp [n0, h] at hb2
      clear hb2
      go_enter Try.func22, Try.ntmps22
      go_wp2_with fail
      refine HC.out.mono ?_
      rintro e w1 ⟨rfl, rfl⟩
      go_wp2_with fail
      go_ret2
      exact ⟨rfl, rfl⟩
    · clear hb2
      go_enter Try.func22, Try.ntmps22
      go_wp2_with fail
      refine HC.out.mono ?_
      rintro e w1 ⟨rfl, rfl⟩
      go_wp2_with fail
      go_ret2
      exact ⟨rfl, rfl⟩
theorem scalar_ok (x n : Int) (hw : wrong s x = 0) {p : GN × NB} (hp : N[held s x - 1]? = some p) (hin : inL n p.1.scal.length = true) (h : SepO W oo w (gparts g H s.largest s.hs N)) (hs : s.ok) (hN : N.map (·.1) = s.nodes) :
    Calls Try.prog 22 #[pt g, .int .i64 x, .int .i64 n] w fun e w' => e = .returned (.tuple #[.pointer (some ⟨p.2.s, n.toNat, none⟩), .int .i64 0]) ∧ w = w' := by
  have hc := object_in x h hs hN
  obtain ⟨_, e2⟩ := wrong_0 hw
  obtain ⟨p', hp', hp1, hpv⟩ := node_at hs hN e2 (held_le hs x)
  rw [hp] at hp'
  cases hp'
  rw [hw, hpv] at hc
  simp at hc
  have hno := (nod_at hs e2 (held_le hs x)).2.2.2
  rw [← hp1] at hno
  have cs : w.cell? ⟨p.2.b, 1, none⟩ = some (slv p.2.s p.1.scal.length) := by have := (g_node h hp).cell 1; simpa using this
  obtain ⟨n0, n1⟩ := (inL_iff _ _).1 hin
  have HC := Lib.hid hc
  generalize p.1.scal.length = m at *
  clear hc e2 h hN hp hpv hp1 hw hin
  go_enter Try.func22, Try.ntmps22
  go_wp2_with fail
  refine HC.out.mono ?_
  rintro e w1 ⟨rfl, rfl⟩
  go_wp2_with fail
  go_ret2
  exact ⟨rfl, rfl⟩
end
end Go.Proofs.Ytoldhaomacnigaa.Gr
