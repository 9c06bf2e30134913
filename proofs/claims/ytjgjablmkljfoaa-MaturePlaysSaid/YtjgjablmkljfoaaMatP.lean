/- What is in use in a space: where it lies, that it never meets. No condition. -/
import Derived.Test.YtjgjablmkljfoaaMatM
set_option linter.unusedVariables false
set_option linter.unusedSimpArgs false
namespace Go.Proofs.Ytjgjablmkljfoaa.Ma
open Go.RowKit Go.Proofs.Ytjgjablmkljfoaa.W Go.Proofs.Ytjgjablmkljfoaa.Cl
/-- Something in use begins at x: in page i, cell k. -/
def Use (s : MS) (x : Int) (i k : Nat) (p : Pg) : Prop := s.l[i]? = some p ∧ ((p.kind = 2 ∧ k = 0 ∧ x = s.f + i * s.w) ∨ (p.kind = 1 ∧ p.used[k]? = some true ∧ x = s.f + i * s.w + k * p.size))
theorem divmod {n i r : Int} (hn : 0 < n) (h0 : 0 ≤ r) (h1 : r < n) : (i * n + r) / n = i ∧ (i * n + r) % n = r := by
  rw [Int.add_comm, Int.add_mul_ediv_right _ _ (by omega), Int.add_mul_emod_self_right, Int.ediv_eq_zero_of_lt h0 h1, Int.emod_eq_of_lt h0 h1]
  exact ⟨by omega, rfl⟩
theorem cell_fits {w : Int} {p : Pg} (hw : 1 ≤ w) (h : p.ok w) (h1 : p.kind = 1) {k : Nat} (hk : k < p.used.length) : 1 ≤ p.size ∧ 0 ≤ k * p.size ∧ k * p.size + p.size ≤ w := by
  rcases h with ⟨_, h2, h3, h4⟩ | ⟨h2, _⟩
  · refine ⟨h2, Int.mul_nonneg (by omega) (by omega), ?_⟩
    have e1 := Int.mul_le_mul_of_nonneg_right (by omega : (k : Int) + 1 ≤ w / p.size) (by omega : 0 ≤ p.size)
    have e2 := Int.ediv_mul_le w (by omega : p.size ≠ 0)
    rw [Int.add_mul, Int.one_mul] at e1
    omega
  · exact absurd h1 h2
theorem use_at {s : MS} (hs : s.ok) {x : Int} {i k : Nat} {p : Pg} (h : Use s x i k p) : atO s.f s.w s.l x = some (i, k) := by
  obtain ⟨⟨f0, f1⟩, ⟨w0, w1⟩, hl, hp, _⟩ := hs
  obtain ⟨hi, h⟩ := h
  have hpk := hp p (List.mem_of_getElem? hi)
  have hiw : 0 ≤ (i : Int) * s.w := Int.mul_nonneg (by omega) (by omega)
  have key : ∀ r : Int, 0 ≤ r → r < s.w → x = s.f + i * s.w + r → atO s.f s.w s.l x = atP i p r := fun r r0 r1 hx => by
    obtain ⟨d1, d2⟩ := divmod (n := s.w) (i := i) (r := r) (by omega) r0 r1
    have e : x - s.f = i * s.w + r := by omega
    unfold atO
    rw [if_neg (by omega), e, d1, d2, Int.toNat_natCast, hi]
  rcases h with ⟨h2, rfl, hx⟩ | ⟨h1, hu, hx⟩
  · rw [key 0 (by omega) (by omega) (by omega)]
    simp [atP, h2]
  · have hk : k < p.used.length := (List.getElem?_eq_some_iff.1 hu).1
    obtain ⟨c0, c1, c2⟩ := cell_fits w0 hpk h1 hk
    rw [key (k * p.size) c1 (by omega) hx]
    have e1 : ((k : Int) * p.size) / p.size = k := Int.mul_ediv_cancel _ (by omega)
    simp [atP, h1, e1, hu]
theorem at_use {s : MS} (hs : s.ok) {x : Int} {i k : Nat} (h : atO s.f s.w s.l x = some (i, k)) : ∃ p, Use s x i k p := by
  obtain ⟨hf, hi, p, hp, hk⟩ := atO_some h
  have w0 := hs.2.1.1
  refine ⟨p, hp, ?_⟩
  have hd0 : 0 ≤ (x - s.f) / s.w := Int.ediv_nonneg (by omega) (by omega)
  have hm0 : 0 ≤ (x - s.f) % s.w := Int.emod_nonneg _ (by omega)
  have hdm := Int.mul_ediv_add_emod (x - s.f) s.w
  have hi' : (i : Int) = (x - s.f) / s.w := by omega
  rw [← hi', Int.mul_comm] at hdm
  rcases hk with ⟨h2, h3, h4⟩ | ⟨h1, h2, h3, h4⟩
  · exact .inl ⟨h2, h3, by omega⟩
  · refine .inr ⟨h1, h4, ?_⟩
    have hpk := hs.2.2.2.1 p (List.mem_of_getElem? hp)
    obtain ⟨c0, _, _⟩ := cell_fits w0 hpk h1 (List.getElem?_eq_some_iff.1 h4).1
    have hd2 : 0 ≤ ((x - s.f) % s.w) / p.size := Int.ediv_nonneg hm0 (by omega)
    have hdm2 := Int.mul_ediv_add_emod ((x - s.f) % s.w) p.size
    have hk' : (k : Int) = ((x - s.f) % s.w) / p.size := by omega
    rw [← hk', Int.mul_comm, h2] at hdm2
    omega
theorem has_iff {s : MS} (hs : s.ok) {x : Int} : s.has x = true ↔ ∃ i k p, Use s x i k p := by
  unfold MS.has
  constructor
  · intro h
    obtain ⟨⟨i, k⟩, h⟩ := Option.isSome_iff_exists.1 h
    exact ⟨i, k, at_use hs h⟩
  · rintro ⟨i, k, p, h⟩
    rw [use_at hs h]; rfl
theorem use_size {s : MS} (hs : s.ok) {x : Int} {i k : Nat} {p : Pg} (h : Use s x i k p) : s.size x = szP s.w p := by
  unfold MS.size szO
  rw [use_at hs h]
  simp only [h.1]
theorem use_one {s : MS} (hs : s.ok) {x : Int} {i k j m : Nat} {p q : Pg} (h : Use s x i k p) (h' : Use s x j m q) : i = j ∧ k = m ∧ p = q := by
  have e := (use_at hs h).symm.trans (use_at hs h')
  simp only [Option.some.injEq, Prod.mk.injEq] at e
  obtain ⟨rfl, rfl⟩ := e
  have := h.1.symm.trans h'.1
  exact ⟨rfl, rfl, Option.some.inj this⟩
/-- How the pages of a space hang together. -/
structure SI (s : MS) : Prop where
  ok : s.ok
  big : ∀ (i : Nat) (p : Pg), s.l[i]? = some p → p.kind = 2 → ∀ j : Nat, i < j → j < i + (pgs s.w p.size).toNat → ∃ q : Pg, s.l[j]? = some q ∧ q.kind = 3
  own : ∀ (j : Nat) (q : Pg), s.l[j]? = some q → q.kind = 3 → ∃ (i : Nat) (p : Pg), s.l[i]? = some p ∧ p.kind = 2 ∧ i < j ∧ j < i + (pgs s.w p.size).toNat
  cell : ∀ (i : Nat) (p : Pg), s.l[i]? = some p → p.kind = 1 → ∃ k : Nat, p.used[k]? = some true
  rest : ∀ (i : Nat) (p : Pg), s.l[i]? = some p → p.kind ≠ 1 → p.kind ≠ 2 → p.pend = false
/-- Where something in use lies. -/
theorem use_in {s : MS} (hs : s.ok) {x : Int} {i k : Nat} {p : Pg} (h : Use s x i k p) : s.f + i * s.w ≤ x ∧ 1 ≤ szP s.w p ∧ (p.kind = 1 → x + szP s.w p ≤ s.f + i * s.w + s.w) ∧ (p.kind = 2 → x = s.f + i * s.w ∧ szP s.w p = pgs s.w p.size * s.w ∧ 1 ≤ pgs s.w p.size ∧ (i : Int) + pgs s.w p.size ≤ s.l.length) := by
  obtain ⟨hi, h⟩ := h
  have w0 := hs.2.1.1
  have hpk := hs.2.2.2.1 p (List.mem_of_getElem? hi)
  rcases h with ⟨h2, rfl, hx⟩ | ⟨h1, hu, hx⟩
  · have e : szP s.w p = pgs s.w p.size * s.w := if_pos h2
    have hb := (hs.mw (g0_map s.l)).big_b (g0_get hi) h2
    simp only [] at hb
    have hl : ((g0 s.l).length : Int) = s.l.length := by simp [g0]
    rw [hl] at hb
    refine ⟨by omega, ?_, fun h => by omega, fun _ => ⟨hx, e, hb.2.2.1, hb.2.2.2.1⟩⟩
    rw [e]
    have := Int.mul_le_mul hb.2.2.1 w0 (by omega) (by omega)
    omega
  · have e : szP s.w p = p.size := if_neg (by omega)
    obtain ⟨c0, c1, c2⟩ := cell_fits w0 hpk h1 (List.getElem?_eq_some_iff.1 hu).1
    rw [e]
    exact ⟨by omega, c0, fun _ => by omega, fun h => by omega⟩
theorem page_le {w : Int} (hw : 1 ≤ w) {a b : Int} (h : a ≤ b) : a * w ≤ b * w := Int.mul_le_mul_of_nonneg_right h (by omega)
theorem use_end {s : MS} (hs : s.ok) {x : Int} {i k : Nat} {p : Pg} (h : Use s x i k p) : s.f ≤ x ∧ x + szP s.w p ≤ s.f + s.l.length * s.w := by
  obtain ⟨a1, a2, a3, a4⟩ := use_in hs h
  have w0 := hs.2.1.1
  have hil : i < s.l.length := (List.getElem?_eq_some_iff.1 h.1).1
  have h0 : 0 ≤ (i : Int) * s.w := Int.mul_nonneg (by omega) (by omega)
  refine ⟨by omega, ?_⟩
  rcases h.2 with ⟨h2, _⟩ | ⟨h1, _⟩
  · obtain ⟨b1, b2, b3, b4⟩ := a4 h2
    have := page_le w0 b4
    rw [Int.add_mul] at this
    omega
  · have := a3 h1
    have := page_le w0 (by omega : (i : Int) + 1 ≤ s.l.length)
    rw [Int.add_mul, Int.one_mul] at this
    omega
theorem use_lt {s : MS} (hs : SI s) {x y : Int} {i k j m : Nat} {p q : Pg} (h : Use s x i k p) (h' : Use s y j m q) (hij : i < j) : x + szP s.w p ≤ y := by
  obtain ⟨a1, a2, a3, a4⟩ := use_in hs.ok h
  obtain ⟨b1, _⟩ := use_in hs.ok h'
  have w0 := hs.ok.2.1.1
  rcases h.2 with ⟨h2, _⟩ | ⟨h1, _⟩
  · obtain ⟨c1, c2, c3, c4⟩ := a4 h2
    have hj : (i : Int) + pgs s.w p.size ≤ j := by
      apply Classical.byContradiction
      intro hn
      obtain ⟨q', hq', hk⟩ := hs.big i p h.1 h2 j hij (by omega)
      rw [h'.1] at hq'
      cases hq'
      rcases h'.2 with ⟨h3, _⟩ | ⟨h3, _⟩ <;> omega
    have := page_le w0 hj
    rw [Int.add_mul] at this
    omega
  · have := a3 h1
    have := page_le w0 (by omega : (i : Int) + 1 ≤ j)
    rw [Int.add_mul, Int.one_mul] at this
    omega
theorem use_apart {s : MS} (hs : SI s) {x y : Int} {i k j m : Nat} {p q : Pg} (h : Use s x i k p) (h' : Use s y j m q) (hxy : x ≠ y) : x + szP s.w p ≤ y ∨ y + szP s.w q ≤ x := by
  rcases Nat.lt_trichotomy i j with hij | hij | hij
  · exact .inl (use_lt hs h h' hij)
  · subst hij
    have e := h.1.symm.trans h'.1
    cases e
    rcases h.2 with ⟨h2, _, hx⟩ | ⟨h1, hu, hx⟩
    · rcases h'.2 with ⟨_, _, hy⟩ | ⟨h3, _⟩
      · omega
      · omega
    · rcases h'.2 with ⟨h3, _⟩ | ⟨_, hu', hy⟩
      · omega
      · have e : szP s.w p = p.size := if_neg (by omega)
        rw [e]
        have hpk := hs.ok.2.2.2.1 p (List.mem_of_getElem? h.1)
        obtain ⟨c0, _, _⟩ := cell_fits hs.ok.2.1.1 hpk h1 (List.getElem?_eq_some_iff.1 hu).1
        rcases Nat.lt_trichotomy k m with hkm | hkm | hkm
        · have := Int.mul_le_mul_of_nonneg_right (by omega : (k : Int) + 1 ≤ m) (by omega : 0 ≤ p.size)
          rw [Int.add_mul, Int.one_mul] at this
          omega
        · subst hkm; omega
        · have := Int.mul_le_mul_of_nonneg_right (by omega : (m : Int) + 1 ≤ k) (by omega : 0 ≤ p.size)
          rw [Int.add_mul, Int.one_mul] at this
          omega
  · exact .inr (use_lt hs h' h hij)
theorem si_new (fr ps wd : Int) : SI (mnew fr ps wd) := by
  have e : ∀ (i : Nat) (p : Pg), (mnew fr ps wd).l[i]? = some p → p = fre := fun i p h => List.eq_of_mem_replicate (List.mem_of_getElem? h)
  refine ⟨mnew_ok fr ps wd, ?_, ?_, ?_, ?_⟩
  · intro i p h hk; rw [e i p h] at hk; exact absurd hk (by decide)
  · intro i p h hk; rw [e i p h] at hk; exact absurd hk (by decide)
  · intro i p h hk; rw [e i p h] at hk; exact absurd hk (by decide)
  · intro i p h _ _; rw [e i p h]; rfl
end Go.Proofs.Ytjgjablmkljfoaa.Ma
