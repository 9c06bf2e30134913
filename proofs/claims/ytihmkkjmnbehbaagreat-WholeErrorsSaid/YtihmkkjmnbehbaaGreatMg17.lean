/- Texts of the whole heap, joined: MatP MatQ. No condition beside those that each lemma names. -/
import Derived.Test.YtihmkkjmnbehbaaGreatMg07
/- What is in use in a space: where it lies, that it never meets. No condition. -/
set_option linter.unusedVariables false
set_option linter.unusedSimpArgs false
namespace Go.Proofs.YtihmkkjmnbehbaaGreat.Ma
open Go.RowKit Go.Proofs.YtihmkkjmnbehbaaGreat.W Go.Proofs.YtihmkkjmnbehbaaGreat.Cl
/-- Something in use begins at x: in page i, cell k. -/
def Use (s : MS) (x : Int) (i k : Nat) (p : Pg) : Prop := s.l[i]? = some p ∧ ((p.kind = 2 ∧ k = 0 ∧ x = s.f + i * s.w) ∨ (p.kind = 1 ∧ p.used[k]? = some true ∧ x = s.f + i * s.w + k * p.size))
theorem divmod {n i r : Int} (hn : 0 < n) (h0 : 0 ≤ r) (h1 : r < n) : (i * n + r) / n = i ∧ (i * n + r) % n = r := by
  rw [Int.add_comm, Int.add_mul_ediv_right _ _ (by omega), Int.add_mul_emod_self_right, Int.ediv_eq_zero_of_lt h0 h1, Int.emod_eq_of_lt h0 h1]
  exact ⟨by omega, rfl⟩
theorem cell_fits {w : Int} {p : Pg} (hw : 1 ≤ w) (h : p.ok w) (h1 : p.kind = 1) {k : Nat} (hk : k < p.used.length) : 1 ≤ p.size ∧ 0 ≤ k * p.size ∧ k * p.size + p.size ≤ w := by
  rcases h with ⟨_, h2, h3, h4⟩ | ⟨h2, _⟩
  · refine ⟨h2, Int.mul_nonneg (by omega) (by omega), ?_⟩
    have e1 := Int.mul_le_mul_of_nonneg_right (by omega : (k : Int) + 1 ≤ w / p.size) (by omega : 0 ≤ p.size)
    have e2 := Int.ediv_mul_le w (by omega : p.size ≠ 0)
    rw [Int.add_mul, Int.one_mul] at e1
    omega
  · exact absurd h1 h2
theorem use_at {s : MS} (hs : s.ok) {x : Int} {i k : Nat} {p : Pg} (h : Use s x i k p) : atO s.f s.w s.l x = some (i, k) := by
  obtain ⟨⟨f0, f1⟩, ⟨w0, w1⟩, hl, hp, _⟩ := hs
  obtain ⟨hi, h⟩ := h
  have hpk := hp p (List.mem_of_getElem? hi)
  have hiw : 0 ≤ (i : Int) * s.w := Int.mul_nonneg (by omega) (by omega)
  have key : ∀ r : Int, 0 ≤ r → r < s.w → x = s.f + i * s.w + r → atO s.f s.w s.l x = atP i p r := fun r r0 r1 hx => by
    obtain ⟨d1, d2⟩ := divmod (n := s.w) (i := i) (r := r) (by omega) r0 r1
    have e : x - s.f = i * s.w + r := by omega
    unfold atO
    rw [if_neg (by omega), e, d1, d2, Int.toNat_natCast, hi]
  rcases h with ⟨h2, rfl, hx⟩ | ⟨h1, hu, hx⟩
  · rw [key 0 (by omega) (by omega) (by omega)]
    simp [atP, h2]
  · have hk : k < p.used.length := (List.getElem?_eq_some_iff.1 hu).1
    obtain ⟨c0, c1, c2⟩ := cell_fits w0 hpk h1 hk
    rw [key (k * p.size) c1 (by omega) hx]
    have e1 : ((k : Int) * p.size) / p.size = k := Int.mul_ediv_cancel _ (by omega)
    simp [atP, h1, e1, hu]
theorem at_use {s : MS} (hs : s.ok) {x : Int} {i k : Nat} (h : atO s.f s.w s.l x = some (i, k)) : ∃ p, Use s x i k p := by
  obtain ⟨hf, hi, p, hp, hk⟩ := atO_some h
  have w0 := hs.2.1.1
  refine ⟨p, hp, ?_⟩
  have hd0 : 0 ≤ (x - s.f) / s.w := Int.ediv_nonneg (by omega) (by omega)
  have hm0 : 0 ≤ (x - s.f) % s.w := Int.emod_nonneg _ (by omega)
  have hdm := Int.mul_ediv_add_emod (x - s.f) s.w
  have hi' : (i : Int) = (x - s.f) / s.w := by omega
  rw [← hi', Int.mul_comm] at hdm
  rcases hk with ⟨h2, h3, h4⟩ | ⟨h1, h2, h3, h4⟩
  · exact .inl ⟨h2, h3, by omega⟩
  · refine .inr ⟨h1, h4, ?_⟩
    have hpk := hs.2.2.2.1 p (List.mem_of_getElem? hp)
    obtain ⟨c0, _, _⟩ := cell_fits w0 hpk h1 (List.getElem?_eq_some_iff.1 h4).1
    have hd2 : 0 ≤ ((x - s.f) % s.w) / p.size := Int.ediv_nonneg hm0 (by omega)
    have hdm2 := Int.mul_ediv_add_emod ((x - s.f) % s.w) p.size
    have hk' : (k : Int) = ((x - s.f) % s.w) / p.size := by omega
    rw [← hk', Int.mul_comm, h2] at hdm2
    omega
theorem has_iff {s : MS} (hs : s.ok) {x : Int} : s.has x = true ↔ ∃ i k p, Use s x i k p := by
  unfold MS.has
  constructor
  · intro h
    obtain ⟨⟨i, k⟩, h⟩ := Option.isSome_iff_exists.1 h
    exact ⟨i, k, at_use hs h⟩
  · rintro ⟨i, k, p, h⟩
    rw [use_at hs h]; rfl
theorem use_size {s : MS} (hs : s.ok) {x : Int} {i k : Nat} {p : Pg} (h : Use s x i k p) : s.size x = szP s.w p := by
  unfold MS.size szO
  rw [use_at hs h]
  simp only [h.1]
theorem use_one {s : MS} (hs : s.ok) {x : Int} {i k j m : Nat} {p q : Pg} (h : Use s x i k p) (h' : Use s x j m q) : i = j ∧ k = m ∧ p = q := by
  have e := (use_at hs h).symm.trans (use_at hs h')
  simp only [Option.some.injEq, Prod.mk.injEq] at e
  obtain ⟨rfl, rfl⟩ := e
  have := h.1.symm.trans h'.1
  exact ⟨rfl, rfl, Option.some.inj this⟩
/-- How the pages of a space hang together. -/
structure SI (s : MS) : Prop where
  ok : s.ok
  big : ∀ (i : Nat) (p : Pg), s.l[i]? = some p → p.kind = 2 → ∀ j : Nat, i < j → j < i + (pgs s.w p.size).toNat → ∃ q : Pg, s.l[j]? = some q ∧ q.kind = 3
  own : ∀ (j : Nat) (q : Pg), s.l[j]? = some q → q.kind = 3 → ∃ (i : Nat) (p : Pg), s.l[i]? = some p ∧ p.kind = 2 ∧ i < j ∧ j < i + (pgs s.w p.size).toNat
  cell : ∀ (i : Nat) (p : Pg), s.l[i]? = some p → p.kind = 1 → ∃ k : Nat, p.used[k]? = some true
  rest : ∀ (i : Nat) (p : Pg), s.l[i]? = some p → p.kind ≠ 1 → p.kind ≠ 2 → p.pend = false
/-- Where something in use lies. -/
theorem use_in {s : MS} (hs : s.ok) {x : Int} {i k : Nat} {p : Pg} (h : Use s x i k p) : s.f + i * s.w ≤ x ∧ 1 ≤ szP s.w p ∧ (p.kind = 1 → x + szP s.w p ≤ s.f + i * s.w + s.w) ∧ (p.kind = 2 → x = s.f + i * s.w ∧ szP s.w p = pgs s.w p.size * s.w ∧ 1 ≤ pgs s.w p.size ∧ (i : Int) + pgs s.w p.size ≤ s.l.length) := by
  obtain ⟨hi, h⟩ := h
  have w0 := hs.2.1.1
  have hpk := hs.2.2.2.1 p (List.mem_of_getElem? hi)
  rcases h with ⟨h2, rfl, hx⟩ | ⟨h1, hu, hx⟩
  · have e : szP s.w p = pgs s.w p.size * s.w := if_pos h2
    have hb := (hs.mw (g0_map s.l)).big_b (g0_get hi) h2
    simp only [] at hb
    have hl : ((g0 s.l).length : Int) = s.l.length := by simp [g0]
    rw [hl] at hb
    refine ⟨by omega, ?_, fun h => by omega, fun _ => ⟨hx, e, hb.2.2.1, hb.2.2.2.1⟩⟩
    rw [e]
    have := Int.mul_le_mul hb.2.2.1 w0 (by omega) (by omega)
    omega
  · have e : szP s.w p = p.size := if_neg (by omega)
    obtain ⟨c0, c1, c2⟩ := cell_fits w0 hpk h1 (List.getElem?_eq_some_iff.1 hu).1
    rw [e]
    exact ⟨by omega, c0, fun _ => by omega, fun h => by omega⟩
theorem page_le {w : Int} (hw : 1 ≤ w) {a b : Int} (h : a ≤ b) : a * w ≤ b * w := Int.mul_le_mul_of_nonneg_right h (by omega)
theorem use_end {s : MS} (hs : s.ok) {x : Int} {i k : Nat} {p : Pg} (h : Use s x i k p) : s.f ≤ x ∧ x + szP s.w p ≤ s.f + s.l.length * s.w := by
  obtain ⟨a1, a2, a3, a4⟩ := use_in hs h
  have w0 := hs.2.1.1
  have hil : i < s.l.length := (List.getElem?_eq_some_iff.1 h.1).1
  have h0 : 0 ≤ (i : Int) * s.w := Int.mul_nonneg (by omega) (by omega)
  refine ⟨by omega, ?_⟩
  rcases h.2 with ⟨h2, _⟩ | ⟨h1, _⟩
  · obtain ⟨b1, b2, b3, b4⟩ := a4 h2
    have := page_le w0 b4
    rw [Int.add_mul] at this
    omega
  · have := a3 h1
    have := page_le w0 (by omega : (i : Int) + 1 ≤ s.l.length)
    rw [Int.add_mul, Int.one_mul] at this
    omega
theorem use_lt {s : MS} (hs : SI s) {x y : Int} {i k j m : Nat} {p q : Pg} (h : Use s x i k p) (h' : Use s y j m q) (hij : i < j) : x + szP s.w p ≤ y := by
  obtain ⟨a1, a2, a3, a4⟩ := use_in hs.ok h
  obtain ⟨b1, _⟩ := use_in hs.ok h'
  have w0 := hs.ok.2.1.1
  rcases h.2 with ⟨h2, _⟩ | ⟨h1, _⟩
  · obtain ⟨c1, c2, c3, c4⟩ := a4 h2
    have hj : (i : Int) + pgs s.w p.size ≤ j := by
      apply Classical.byContradiction
      intro hn
      obtain ⟨q', hq', hk⟩ := hs.big i p h.1 h2 j hij (by omega)
      rw [h'.1] at hq'
      cases hq'
      rcases h'.2 with ⟨h3, _⟩ | ⟨h3, _⟩ <;> omega
    have := page_le w0 hj
    rw [Int.add_mul] at this
    omega
  · have := a3 h1
    have := page_le w0 (by omega : (i : Int) + 1 ≤ j)
    rw [Int.add_mul, Int.one_mul] at this
    omega
theorem use_apart {s : MS} (hs : SI s) {x y : Int} {i k j m : Nat} {p q : Pg} (h : Use s x i k p) (h' : Use s y j m q) (hxy : x ≠ y) : x + szP s.w p ≤ y ∨ y + szP s.w q ≤ x := by
  rcases Nat.lt_trichotomy i j with hij | hij | hij
  · exact .inl (use_lt hs h h' hij)
  · subst hij
    have e := h.1.symm.trans h'.1
    cases e
    rcases h.2 with ⟨h2, _, hx⟩ | ⟨h1, hu, hx⟩
    · rcases h'.2 with ⟨_, _, hy⟩ | ⟨h3, _⟩
      · omega
      · omega
    · rcases h'.2 with ⟨h3, _⟩ | ⟨_, hu', hy⟩
      · omega
      · have e : szP s.w p = p.size := if_neg (by omega)
        rw [e]
        have hpk := hs.ok.2.2.2.1 p (List.mem_of_getElem? h.1)
        obtain ⟨c0, _, _⟩ := cell_fits hs.ok.2.1.1 hpk h1 (List.getElem?_eq_some_iff.1 hu).1
        rcases Nat.lt_trichotomy k m with hkm | hkm | hkm
        · have := Int.mul_le_mul_of_nonneg_right (by omega : (k : Int) + 1 ≤ m) (by omega : 0 ≤ p.size)
          rw [Int.add_mul, Int.one_mul] at this
          omega
        · subst hkm; omega
        · have := Int.mul_le_mul_of_nonneg_right (by omega : (m : Int) + 1 ≤ k) (by omega : 0 ≤ p.size)
          rw [Int.add_mul, Int.one_mul] at this
          omega
  · exact .inr (use_lt hs h' h hij)
theorem si_new (fr ps wd : Int) : SI (mnew fr ps wd) := by
  have e : ∀ (i : Nat) (p : Pg), (mnew fr ps wd).l[i]? = some p → p = fre := fun i p h => List.eq_of_mem_replicate (List.mem_of_getElem? h)
  refine ⟨mnew_ok fr ps wd, ?_, ?_, ?_, ?_⟩
  · intro i p h hk; rw [e i p h] at hk; exact absurd hk (by decide)
  · intro i p h hk; rw [e i p h] at hk; exact absurd hk (by decide)
  · intro i p h hk; rw [e i p h] at hk; exact absurd hk (by decide)
  · intro i p h _ _; rw [e i p h]; rfl
end Go.Proofs.YtihmkkjmnbehbaaGreat.Ma
/- What Take does to what is in use. No condition. -/
set_option linter.unusedVariables false
set_option linter.unusedSimpArgs false
namespace Go.Proofs.YtihmkkjmnbehbaaGreat.Ma
open Go.RowKit Go.Proofs.YtihmkkjmnbehbaaGreat.W Go.Proofs.YtihmkkjmnbehbaaGreat.Cl
theorem rowGo_free {c : Int} {V : List Pg} (hc : 1 ≤ c) : ∀ (n i : Nat) (r q : Int), n = V.length - i → rowGo c (V.drop i) i r = some q → 0 ≤ r → r ≤ i → (∀ j : Nat, (i : Int) - r ≤ j → j < i → ∃ p, V[j]? = some p ∧ p.kind = 0) → ∀ j : Nat, q ≤ j → (j : Int) < q + c → ∃ p, V[j]? = some p ∧ p.kind = 0 := by
  intro n
  induction n with
  | zero =>
    intro i r q hn h
    rw [List.drop_of_length_le (by omega)] at h
    cases h
  | succ n ih =>
    intro i r q hn h r0 r1 hf
    have hi : i < V.length := by omega
    rw [List.drop_eq_getElem_cons hi] at h
    have hg : V[i]? = some V[i] := List.getElem?_eq_getElem hi
    simp only [rowGo] at h
    have e : ((i : Int) + 1) = ((i + 1 : Nat) : Int) := by omega
    split at h
    · rw [e] at h
      exact ih (i + 1) 0 q (by omega) h (Int.le_refl 0) (by omega) (fun j h1 h2 => by omega)
    · rename_i hk
      have hk : V[i].kind = 0 := by simpa using hk
      have hf' : ∀ j : Nat, ((i + 1 : Nat) : Int) - (r + 1) ≤ j → j < i + 1 → ∃ p, V[j]? = some p ∧ p.kind = 0 := fun j h1 h2 => by
        by_cases hj : j = i
        · subst hj; exact ⟨_, hg, hk⟩
        · exact hf j (by omega) (by omega)
      split at h
      · rename_i hrc
        cases h
        intro j h1 h2
        exact hf' j (by omega) (by omega)
      · rw [e] at h
        exact ih (i + 1) (r + 1) q (by omega) h (by omega) (by omega) hf'
theorem row_free {c : Int} {l : List Pg} (hc : 1 ≤ c) {q : Int} (h : rowGo c l 0 0 = some q) : ∃ n : Nat, q = n ∧ (n : Int) + c ≤ l.length ∧ ∀ j : Nat, n ≤ j → (j : Int) < n + c → ∃ p, l[j]? = some p ∧ p.kind = 0 := by
  obtain ⟨q0, q1⟩ := rowGo_b h (Int.le_refl 0)
  refine ⟨q.toNat, by omega, by omega, fun j h1 h2 => ?_⟩
  exact rowGo_free hc l.length 0 0 q (by omega) h (Int.le_refl 0) (Int.le_refl 0) (fun j h1 h2 => by omega) j (by omega) (by omega)
theorem fz_false {u : List Bool} {k : Nat} (h : fz u = some k) : u[k]? = some false := by
  induction u generalizing k with
  | nil => cases h
  | cons x r ih =>
    cases x with
    | false => simp [fz] at h; subst h; rfl
    | true =>
      simp only [fz, Option.map_eq_some_iff] at h
      obtain ⟨a, ha, rfl⟩ := h
      simpa using ih ha
theorem fillM_len (q k : Nat) (l : List Pg) : (fillM q k l).length = l.length := by
  induction k with
  | zero => rfl
  | succ k ih => unfold fillM; rw [List.length_set, ih]
theorem fillM_get {q k : Nat} {l : List Pg} (h : q + k ≤ l.length) (j : Nat) : (fillM q k l)[j]? = if q ≤ j ∧ j < q + k then some more else l[j]? := by
  induction k with
  | zero => rw [if_neg (by omega)]; rfl
  | succ k ih =>
    unfold fillM
    rw [List.getElem?_set, fillM_len]
    by_cases e : q + k = j
    · rw [if_pos e, if_pos (by omega), if_pos (by omega)]
    · rw [if_neg e, ih (by omega)]
      by_cases e2 : q ≤ j ∧ j < q + k
      · rw [if_pos e2, if_pos (by omega)]
      · rw [if_neg e2, if_neg (by omega)]
/-- What Take leaves: a is new, all else is as it was. -/
structure TakeOk (s s' : MS) (a x : Int) : Prop where
  si : SI s'
  f : s'.f = s.f
  w : s'.w = s.w
  len : s'.l.length = s.l.length
  new : ∃ i k p, Use s' a i k p ∧ (x ≤ 1099511627776 → x ≤ szP s.w p) ∧ ∃ p0, s.l[i]? = some p0 ∧ (p0.kind = 0 ∨ (p0.kind = 1 ∧ p0.pend = false))
  old : ∀ y j m q, Use s y j m q → y ≠ a ∧ ∃ q', Use s' y j m q' ∧ szP s.w q' = szP s.w q
  only : ∀ y j m q', Use s' y j m q' → y = a ∨ ∃ q, Use s y j m q
  held : ∀ (j : Nat) (p : Pg), s.l[j]? = some p → p.kind ≠ 0 → (p.kind = 1 → p.pend = true) → s'.l[j]? = some p
theorem mark_take {s : MS} (hs : SI s) {i k : Nat} {p : Pg} (hp : s.l[i]? = some p) (h1 : p.kind = 1) (hpe : p.pend = false) (hk : p.used[k]? = some false) {x : Int} (hx : x ≤ 1099511627776 → x ≤ p.size) (ok' : (⟨s.f, s.w, s.l.set i ⟨p.kind, p.size, p.used.set k true, p.pend⟩⟩ : MS).ok) :
    TakeOk s ⟨s.f, s.w, s.l.set i ⟨p.kind, p.size, p.used.set k true, p.pend⟩⟩ (s.f + i * s.w + k * p.size) x := by
  have hil := (List.getElem?_eq_some_iff.1 hp).1
  have hkl := (List.getElem?_eq_some_iff.1 hk).1
  have w0 := hs.ok.2.1.1
  have hpk := hs.ok.2.2.2.1 p (List.mem_of_getElem? hp)
  obtain ⟨c0, _, _⟩ := cell_fits w0 hpk h1 hkl
  have get : ∀ j : Nat, (s.l.set i ⟨p.kind, p.size, p.used.set k true, p.pend⟩)[j]? = if i = j then some ⟨p.kind, p.size, p.used.set k true, p.pend⟩ else s.l[j]? := fun j => by
    rw [List.getElem?_set]
    by_cases e : i = j
    · subst e; simp [hil]
    · simp [e]
  have ugt : ∀ m : Nat, (p.used.set k true)[m]? = if k = m then some true else p.used[m]? := fun m => by
    rw [List.getElem?_set]
    by_cases e : k = m
    · subst e; simp [hkl]
    · simp [e]
  refine ⟨⟨ok', ?_, ?_, ?_, ?_⟩, rfl, rfl, by simp, ?_, ?_, ?_, ?_⟩
  · intro j q hj hk2 t h2 h3
    simp only [get] at hj ⊢
    split at hj
    · cases hj; exact absurd (h1.symm.trans hk2) (by decide)
    · obtain ⟨q', hq', hk'⟩ := hs.big j q hj hk2 t h2 h3
      refine ⟨q', ?_, hk'⟩
      rw [if_neg (fun e => by subst e; rw [hp] at hq'; cases hq'; omega)]
      exact hq'
  · intro j q hj hk3
    simp only [get] at hj ⊢
    split at hj
    · cases hj; exact absurd (h1.symm.trans hk3) (by decide)
    · obtain ⟨t, p', ht, hk', h2, h3⟩ := hs.own j q hj hk3
      refine ⟨t, p', ?_, hk', h2, h3⟩
      rw [if_neg (fun e => by subst e; rw [hp] at ht; cases ht; omega)]
      exact ht
  · intro j q hj hk1
    simp only [get] at hj
    split at hj
    · cases hj
      exact ⟨k, by show (p.used.set k true)[k]? = _; rw [ugt, if_pos rfl]⟩
    · exact hs.cell j q hj hk1
  · intro j q hj h2 h3
    simp only [get] at hj
    split at hj
    · cases hj; exact absurd h1 h2
    · exact hs.rest j q hj h2 h3
  · refine ⟨i, k, ⟨p.kind, p.size, p.used.set k true, p.pend⟩, ⟨by rw [get, if_pos rfl], .inr ⟨h1, ?_, rfl⟩⟩, fun h => ?_, p, hp, .inr ⟨h1, hpe⟩⟩
    · show (p.used.set k true)[k]? = _
      rw [ugt, if_pos rfl]
    · show x ≤ szP s.w _
      have : szP s.w ⟨p.kind, p.size, p.used.set k true, p.pend⟩ = p.size := if_neg (by show ¬ p.kind = 2; omega)
      rw [this]; exact hx h
  · intro y j m q h
    by_cases e : i = j
    · subst e
      have e2 := hp.symm.trans h.1
      cases e2
      rcases h.2 with ⟨h2, _⟩ | ⟨_, hu, hy⟩
      · omega
      · have hkm : k ≠ m := fun e => by subst e; rw [hk] at hu; simp at hu
        refine ⟨?_, ⟨p.kind, p.size, p.used.set k true, p.pend⟩, ⟨by rw [get, if_pos rfl], .inr ⟨h1, ?_, hy⟩⟩, ?_⟩
        · intro e
          have : (m : Int) * p.size = k * p.size := by omega
          have := Int.eq_of_mul_eq_mul_right (by omega : p.size ≠ 0) this
          omega
        · show (p.used.set k true)[m]? = _
          rw [ugt, if_neg hkm]; exact hu
        · unfold szP; rfl
    · refine ⟨?_, q, ⟨by show (s.l.set i _)[j]? = _; rw [get, if_neg e]; exact h.1, h.2⟩, rfl⟩
      intro e3
      have hn : Use (⟨s.f, s.w, s.l.set i ⟨p.kind, p.size, p.used.set k true, p.pend⟩⟩ : MS) y i k ⟨p.kind, p.size, p.used.set k true, p.pend⟩ := ⟨by rw [get, if_pos rfl], .inr ⟨h1, by show (p.used.set k true)[k]? = _; rw [ugt, if_pos rfl], e3⟩⟩
      have ho : Use (⟨s.f, s.w, s.l.set i ⟨p.kind, p.size, p.used.set k true, p.pend⟩⟩ : MS) y j m q := ⟨by show (s.l.set i _)[j]? = _; rw [get, if_neg e]; exact h.1, h.2⟩
      exact e (use_one ok' hn ho).1
  · intro y j m q h
    have hj := h.1
    simp only [get] at hj
    split at hj
    · rename_i e
      subst e
      cases hj
      rcases h.2 with ⟨h2, _⟩ | ⟨_, hu, hy⟩
      · exact absurd (h1.symm.trans h2) (by decide)
      · have hu' : (p.used.set k true)[m]? = some true := hu
        rw [ugt] at hu'
        split at hu'
        · rename_i e; subst e; exact .inl hy
        · exact .inr ⟨p, hp, .inr ⟨h1, hu', hy⟩⟩
    · exact .inr ⟨q, hj, h.2⟩
  · intro j q hj h0 hh
    simp only [get]
    split
    · rename_i e
      subst e
      have e2 := hp.symm.trans hj
      cases e2
      have := hh h1
      rw [hpe] at this; cases this
    · exact hj
theorem fresh_take {s : MS} (hs : SI s) {l' : List Pg} {q c : Nat} {P : Pg} (hl : l'.length = s.l.length) (hget : ∀ j : Nat, l'[j]? = if j = q then some P else if q < j ∧ j < q + c then some more else s.l[j]?) (hc : 1 ≤ c)
    (hf : ∀ j : Nat, q ≤ j → j < q + c → ∃ p, s.l[j]? = some p ∧ p.kind = 0) (hP : (P.kind = 1 ∧ c = 1 ∧ ∀ k : Nat, P.used[k]? = some true ↔ k = 0) ∨ (P.kind = 2 ∧ (pgs s.w P.size).toNat = c)) {x : Int} (hx : x ≤ 1099511627776 → x ≤ szP s.w P) (ok' : (⟨s.f, s.w, l'⟩ : MS).ok) :
    TakeOk s ⟨s.f, s.w, l'⟩ (s.f + q * s.w) x := by
  have out : ∀ (j : Nat) (p : Pg), s.l[j]? = some p → p.kind ≠ 0 → l'[j]? = some p := fun j p hj h0 => by
    rw [hget]
    have hn : ¬ (q ≤ j ∧ j < q + c) := fun h => by
      obtain ⟨p', h1, h2⟩ := hf j h.1 h.2
      rw [hj] at h1; cases h1; exact h0 h2
    rw [if_neg (by omega), if_neg (by omega)]
    exact hj
  have hq : l'[q]? = some P := by rw [hget, if_pos rfl]
  have new : Use (⟨s.f, s.w, l'⟩ : MS) (s.f + q * s.w) q 0 P := by
    refine ⟨hq, ?_⟩
    rcases hP with ⟨h1, _, h2⟩ | ⟨h1, _⟩
    · exact .inr ⟨h1, (h2 0).2 rfl, by simp⟩
    · exact .inl ⟨h1, rfl, rfl⟩
  refine ⟨⟨ok', ?_, ?_, ?_, ?_⟩, rfl, rfl, hl, ?_, ?_, ?_, ?_⟩
  · intro j p hj hk2 t h2 h3
    simp only [] at hj h3 ⊢
    rw [hget] at hj
    split at hj
    · rename_i e
      cases hj
      subst e
      rcases hP with ⟨h1, _⟩ | ⟨_, h4⟩
      · omega
      · exact ⟨more, by rw [hget, if_neg (by omega), if_pos (by omega)], rfl⟩
    · split at hj
      · cases hj; exact absurd hk2 (by decide)
      · obtain ⟨p', hp', hk'⟩ := hs.big j p hj hk2 t h2 h3
        exact ⟨p', out t p' hp' (by omega), hk'⟩
  · intro j p hj hk3
    simp only [] at hj ⊢
    rw [hget] at hj
    split at hj
    · cases hj
      rcases hP with ⟨h1, _⟩ | ⟨h1, _⟩ <;> omega
    · split at hj
      · rename_i h
        refine ⟨q, P, hq, ?_, h.1, ?_⟩
        · rcases hP with ⟨_, h1, _⟩ | ⟨h1, _⟩
          · omega
          · exact h1
        · rcases hP with ⟨_, h1, _⟩ | ⟨_, h1⟩ <;> omega
      · obtain ⟨t, p', ht, hk', h2, h3⟩ := hs.own j p hj hk3
        exact ⟨t, p', out t p' ht (by omega), hk', h2, h3⟩
  · intro j p hj hk1
    simp only [] at hj
    rw [hget] at hj
    split at hj
    · cases hj
      rcases hP with ⟨_, _, h1⟩ | ⟨h1, _⟩
      · exact ⟨0, (h1 0).2 rfl⟩
      · omega
    · split at hj
      · cases hj; exact absurd hk1 (by decide)
      · exact hs.cell j p hj hk1
  · intro j p hj h2 h3
    simp only [] at hj
    rw [hget] at hj
    split at hj
    · cases hj
      rcases hP with ⟨h1, _⟩ | ⟨h1, _⟩
      · exact absurd h1 h2
      · exact absurd h1 h3
    · split at hj
      · cases hj; rfl
      · exact hs.rest j p hj h2 h3
  · obtain ⟨p0, h1, h2⟩ := hf q (Nat.le_refl _) (by omega)
    exact ⟨q, 0, P, new, hx, p0, h1, .inl h2⟩
  · intro y j m p h
    have h0 : p.kind ≠ 0 := by rcases h.2 with ⟨h2, _⟩ | ⟨h2, _⟩ <;> omega
    have hu : Use (⟨s.f, s.w, l'⟩ : MS) y j m p := ⟨out j p h.1 h0, h.2⟩
    refine ⟨fun e => ?_, p, hu, rfl⟩
    subst e
    obtain ⟨rfl, _⟩ := use_one ok' hu new
    obtain ⟨p', h1, h2⟩ := hf j (Nat.le_refl _) (by omega)
    rw [h.1] at h1
    cases h1
    exact h0 h2
  · intro y j m p h
    have hj := h.1
    simp only [] at hj
    rw [hget] at hj
    split at hj
    · rename_i e
      cases hj
      subst e
      left
      rcases h.2 with ⟨_, _, hy⟩ | ⟨h1, hu, hy⟩
      · exact hy
      · rcases hP with ⟨_, _, h2⟩ | ⟨h2, _⟩
        · have := (h2 m).1 hu
          subst this
          simpa using hy
        · omega
    · split at hj
      · cases hj
        rcases h.2 with ⟨h1, _⟩ | ⟨h1, _⟩ <;> exact absurd h1 (by decide)
      · exact .inr ⟨p, hj, h.2⟩
  · intro j p hj h0 _
    exact out j p hj h0
theorem rnd_ge {x : Int} (h : x ≤ 1099511627776) : x ≤ rnd x := by
  unfold rnd
  exact CR.R_ge_x 38 4 x (by omega) (by omega)
theorem pgs_ge {w x : Int} (hw : 1 ≤ w) (hx : 1 ≤ x) : x ≤ pgs w x * w := by
  unfold pgs
  rw [if_neg (by omega)]
  have h1 := Int.mul_ediv_add_emod x w
  have h2 := Int.emod_nonneg x (by omega : w ≠ 0)
  have h3 := Int.emod_lt_of_pos x (by omega : 0 < w)
  rw [Int.add_mul]
  rw [Int.mul_comm] at h1
  split
  · omega
  · rcases (by omega : x % w = 0 ∨ x % w = 1) with e | e
    · rw [e] at h1 ⊢; omega
    · rw [e] at h1 ⊢; omega
theorem take_spec {s : MS} (hs : SI s) {x : Int} (hx : x ≤ 9223372036854775807) {a : Int} (h : s.took x = some a) : TakeOk s (s.take x) a x := by
  have ok' := take_ok hs.ok hx
  have n0 := hs.ok.2.1.1
  unfold MS.took takeR at h
  unfold MS.take takeR at ok' ⊢
  by_cases hx1 : x < 1
  · rw [if_pos hx1] at h; cases h
  · rw [if_neg hx1] at h ok' ⊢
    cases hb : big s.w x
    · rw [hb, if_neg (by simp)] at h ok' 
      rw [if_neg (by simp)]
      have h1 := rnd_b x
      have hle : rnd x ≤ s.w := by
        unfold big at hb
        have h1 : ¬ s.w / 2 < rnd x := by simpa using hb
        omega
      cases hf : fb (rnd x) s.l 0 with
      | some y =>
        obtain ⟨i, k⟩ := y
        obtain ⟨p, _, hp, h1, h2, h3, h4⟩ := fb_some hf
        rw [Nat.sub_zero] at hp
        rw [ibR_some hf hp] at h ok' ⊢
        simp only [Option.some.injEq] at h
        subst h
        have := mark_take hs hp h1 h3 (fz_false h4) (x := x) (fun h => by rw [h2]; exact rnd_ge h) ok'
        rw [h2] at this
        rw [h2]
        exact this
      | none =>
        cases hr : rowGo 1 s.l 0 0 with
        | none => rw [ibR_none hf hr] at h; cases h
        | some qi =>
          obtain ⟨q, rfl, hq1, hq2⟩ := row_free (Int.le_refl 1) hr
          rw [ibR_new hf hr, Int.toNat_natCast] at ok' ⊢
          rw [ibR_new hf hr] at h
          simp only [Option.some.injEq] at h
          subst h
          have hD : 1 ≤ s.w / rnd x := by
            have := Int.ediv_le_ediv (by omega : 0 < rnd x) hle
            rw [Int.ediv_self (by omega)] at this
            omega
          refine fresh_take hs (P := newB s.w (rnd x)) (c := 1) (by simp) (fun j => ?_) (Nat.le_refl 1) (fun j h1 h2 => hq2 j h1 (by omega)) (.inl ⟨rfl, rfl, fun k => ?_⟩) (fun h => ?_) ok'
          · rw [List.getElem?_set]
            by_cases e : q = j
            · subst e; rw [if_pos rfl, if_pos (by omega), if_pos rfl]
            · rw [if_neg e, if_neg (fun h => e h.symm), if_neg (by omega)]
          · simp only [newB, List.getElem?_set, List.length_replicate, List.getElem?_replicate]
            by_cases e : 0 = k
            · subst e; rw [if_pos rfl, if_pos (by omega)]; simp
            · rw [if_neg e]
              split
              · simp; omega
              · simp; omega
          · rw [show szP s.w (newB s.w (rnd x)) = rnd x from if_neg (by show ¬ (1 : Int) = 2; decide)]
            exact rnd_ge h
    · rw [hb, if_pos rfl] at h ok'
      rw [if_pos rfl]
      cases hr : rowGo (pgs s.w x) s.l 0 0 with
      | none => rw [hr] at h; cases h
      | some qi =>
        obtain ⟨c0, _⟩ := pgs_b n0 (by omega : 1 ≤ x)
        obtain ⟨q, rfl, hq1, hq2⟩ := row_free c0 hr
        rw [hr] at h ok'
        simp only [Option.some.injEq] at h
        subst h
        simp only [Int.toNat_natCast] at ok' ⊢
        have hqc : q + (pgs s.w x).toNat ≤ s.l.length := by omega
        refine fresh_take hs (P := ⟨2, x, [], false⟩) (c := (pgs s.w x).toNat) (by rw [List.length_set, fillM_len]) (fun j => ?_) (by omega) (fun j h1 h2 => hq2 j h1 (by omega)) (.inr ⟨rfl, rfl⟩) (fun _ => ?_) ok'
        · rw [List.getElem?_set, fillM_len, fillM_get hqc]
          by_cases e : q = j
          · subst e; rw [if_pos rfl, if_pos (by omega), if_pos rfl]
          · rw [if_neg e]
            by_cases e2 : q ≤ j ∧ j < q + (pgs s.w x).toNat
            · rw [if_pos e2, if_neg (fun h => e h.symm), if_pos (by omega)]
            · rw [if_neg e2, if_neg (fun h => e h.symm), if_neg (by omega)]
        · rw [show szP s.w (⟨2, x, [], false⟩ : Pg) = pgs s.w x * s.w from if_pos rfl]
          exact pgs_ge n0 (by omega)
theorem take_none {s : MS} {x : Int} (h : s.took x = none) : s.take x = s := by
  unfold MS.took takeR at h
  unfold MS.take takeR
  by_cases hx1 : x < 1
  · rw [if_pos hx1]
  · rw [if_neg hx1] at h ⊢
    cases hb : big s.w x
    · rw [hb, if_neg (by simp)] at h
      rw [if_neg (by simp)]
      cases hf : fb (rnd x) s.l 0 with
      | some y =>
        obtain ⟨i, k⟩ := y
        obtain ⟨p, _, hp, _⟩ := fb_some hf
        rw [Nat.sub_zero] at hp
        rw [ibR_some hf hp] at h; cases h
      | none =>
        cases hr : rowGo 1 s.l 0 0 with
        | none => rw [ibR_none hf hr]
        | some qi => rw [ibR_new hf hr] at h; cases h
    · rw [hb, if_pos rfl] at h
      rw [if_pos rfl]
      cases hr : rowGo (pgs s.w x) s.l 0 0 with
      | none => rfl
      | some qi => rw [hr] at h; cases h
end Go.Proofs.YtihmkkjmnbehbaaGreat.Ma
