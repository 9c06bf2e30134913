/- The reference's list of cells and the program's pages hold the same: the cells of a space. No condition. -/
import Derived.Test.YtjgjablmkljfoaaMatW
import Derived.Test.YtjgjablmkljfoaaMrB
import Derived.Test.YtjgjablmkljfoaaMrC
import Derived.Test.YtjgjablmkljfoaaMrG
set_option linter.unusedVariables false
set_option linter.unusedSimpArgs false
namespace Go.Proofs.Ytjgjablmkljfoaa.Mr
open Go.RowKit Go.Proofs.Ytjgjablmkljfoaa.W Go.Proofs.Ytjgjablmkljfoaa.Cl Go.Proofs.Ytjgjablmkljfoaa.Ma
/-- A cell of page i. -/
def CA (s : MS) (i : Nat) (p : Pg) (c : Ce) : Prop := s.l[i]? = some p ∧ ((p.kind = 2 ∧ c = ⟨s.f + i * s.w, pgs s.w p.size * s.w, true, true⟩) ∨ (p.kind = 1 ∧ ∃ (k : Nat) (u : Bool), p.used[k]? = some u ∧ c = ⟨s.f + i * s.w + k * p.size, p.size, u, false⟩))
theorem ca_geo {s : MS} (hs : s.ok) {i : Nat} {p : Pg} {c : Ce} (h : CA s i p c) : s.f + i * s.w ≤ c.a ∧ c.a < s.f + i * s.w + s.w ∧ 1 ≤ c.n ∧ (p.kind = 1 → c.a + c.n ≤ s.f + i * s.w + s.w) ∧ (p.kind = 2 → c.a = s.f + i * s.w ∧ c.n = pgs s.w p.size * s.w ∧ 1 ≤ pgs s.w p.size ∧ (i : Int) + pgs s.w p.size ≤ s.l.length) := by
  obtain ⟨hi, h⟩ := h
  have w0 := hs.2.1.1
  rcases h with ⟨h2, rfl⟩ | ⟨h1, k, u, hk, rfl⟩
  · have hb := (hs.mw (g0_map s.l)).big_b (g0_get hi) h2
    simp only [] at hb
    have hl : ((g0 s.l).length : Int) = s.l.length := by simp [g0]
    rw [hl] at hb
    have := Int.mul_le_mul hb.2.2.1 w0 (by omega) (by omega)
    exact ⟨Int.le_refl _, by show s.f + i * s.w < _; omega, by show 1 ≤ pgs s.w p.size * s.w; omega, fun h => by omega, fun _ => ⟨rfl, rfl, hb.2.2.1, hb.2.2.2.1⟩⟩
  · obtain ⟨c0, c1, c2⟩ := cell_fits w0 (hs.2.2.2.1 p (List.mem_of_getElem? hi)) h1 (List.getElem?_eq_some_iff.1 hk).1
    exact ⟨by show _ ≤ s.f + i * s.w + k * p.size; omega, by show s.f + i * s.w + k * p.size < _; omega, c0, fun _ => by show s.f + i * s.w + k * p.size + p.size ≤ _; omega, fun h => by omega⟩
theorem ca_of {s : MS} (hs : s.ok) {i : Nat} {p : Pg} {c : Ce} (h : CA s i p c) : (c.a - s.f) / s.w = i := by
  obtain ⟨h1, h2, _⟩ := ca_geo hs h
  have w0 := hs.2.1.1
  have e : c.a - s.f = i * s.w + (c.a - s.f - i * s.w) := by omega
  rw [e]
  exact (divmod (by omega) (by omega) (by omega)).1
theorem ca_inj {s : MS} (hs : s.ok) {i j : Nat} {p q : Pg} {c d : Ce} (h : CA s i p c) (h' : CA s j q d) (e : c.a = d.a) : i = j ∧ p = q ∧ c = d := by
  have e1 := ca_of hs h
  have e2 := ca_of hs h'
  rw [e, e2] at e1
  obtain rfl : j = i := by omega
  have e3 := h.1.symm.trans h'.1
  cases e3
  refine ⟨rfl, rfl, ?_⟩
  rcases h.2 with ⟨h2, rfl⟩ | ⟨h1, k, u, hk, rfl⟩
  · rcases h'.2 with ⟨_, rfl⟩ | ⟨h3, _⟩
    · rfl
    · omega
  · rcases h'.2 with ⟨h3, _⟩ | ⟨_, m, v, hm, rfl⟩
    · omega
    · obtain ⟨c0, _⟩ := cell_fits hs.2.1.1 (hs.2.2.2.1 p (List.mem_of_getElem? h.1)) h1 (List.getElem?_eq_some_iff.1 hk).1
      have e4 : (k : Int) * p.size = m * p.size := by
        have : s.f + j * s.w + k * p.size = s.f + j * s.w + m * p.size := e
        omega
      have := Int.eq_of_mul_eq_mul_right (by omega : p.size ≠ 0) e4
      obtain rfl : k = m := by omega
      rw [hk] at hm
      cases hm
      rfl
/-- The reference's cells are the pages' cells. -/
structure Rel (s : MS) (r : RS) : Prop where
  si : SI s
  f : r.f = s.f
  w : r.w = s.w
  p : r.p = s.l.length
  pd : r.pd = s.l.map (·.pend)
  nd : (r.cs.map (·.a)).Nodup
  mem : ∀ c, c ∈ r.cs ↔ ∃ i p, CA s i p c
theorem nd_len : ∀ (m : Nat) (lo : Int) (L : List Int), L.Nodup → (∀ x ∈ L, lo ≤ x ∧ x < lo + m) → L.length ≤ m := by
  intro m
  induction m with
  | zero =>
    intro lo L _ h
    cases L with
    | nil => exact Nat.le_refl _
    | cons x r => have := h x List.mem_cons_self; omega
  | succ m ih =>
    intro lo L hn h
    have h1 := ih lo (L.erase (lo + m)) (hn.erase _) (fun x hx => by
      rw [hn.mem_erase_iff] at hx
      have := h x hx.2
      have := hx.1
      omega)
    have := List.le_length_erase (a := lo + m) (l := L)
    omega
theorem Rel.ok {s : MS} {r : RS} (h : Rel s r) : r.ok := by
  obtain ⟨⟨f0, f1⟩, ⟨w0, w1⟩, hl, _⟩ := h.si.ok
  have hc : ∀ c ∈ r.cs, r.cok c := fun c hc => by
    obtain ⟨i, p, hca⟩ := (h.mem c).1 hc
    obtain ⟨g1, g2, g3, g4, g5⟩ := ca_geo h.si.ok hca
    have hil := (List.getElem?_eq_some_iff.1 hca.1).1
    have hi0 : 0 ≤ (i : Int) * s.w := Int.mul_nonneg (by omega) (by omega)
    unfold RS.cok
    rw [h.f, h.w, h.p]
    refine ⟨by omega, g3, ?_⟩
    rcases hca.2 with ⟨h2, _⟩ | ⟨h1, _⟩
    · obtain ⟨b1, b2, b3, b4⟩ := g5 h2
      have := page_le w0 b4
      rw [Int.add_mul] at this
      omega
    · have := g4 h1
      have := page_le w0 (by omega : (i : Int) + 1 ≤ s.l.length)
      rw [Int.add_mul, Int.one_mul] at this
      omega
  have hpw : (r.p : Int) * r.w ≤ 64 * 256 := by
    rw [h.p, h.w]
    exact Int.mul_le_mul (by omega) w1 (by omega) (by omega)
  have hpw0 : 0 ≤ (r.p : Int) * r.w := by
    rw [h.p, h.w]
    exact Int.mul_nonneg (by omega) (by omega)
  refine ⟨by rw [h.f]; omega, by rw [h.f]; omega, by rw [h.p]; omega, by rw [h.w]; omega, by rw [h.w]; omega, by rw [h.pd, h.p]; simp, ?_, hc⟩
  have := nd_len ((r.p : Int) * r.w).toNat r.f (r.cs.map (·.a)) h.nd (fun x hx => by
    obtain ⟨c, hcm, rfl⟩ := List.mem_map.1 hx
    obtain ⟨h1, h2, h3⟩ := hc c hcm
    omega)
  rw [List.length_map] at this
  omega
theorem Rel.len {s : MS} {r : RS} (h : Rel s r) : r.cs.length < 19000 := by
  have ho := h.ok
  have hpw := ho.pw
  have := nd_len ((r.p : Int) * r.w).toNat r.f (r.cs.map (·.a)) h.nd (fun x hx => by
    obtain ⟨c, hcm, rfl⟩ := List.mem_map.1 hx
    obtain ⟨h1, h2, h3⟩ := ho.cs c hcm
    omega)
  rw [List.length_map] at this
  omega
theorem Rel.ofI {s : MS} {r : RS} (h : Rel s r) {i : Nat} {p : Pg} {c : Ce} (hc : CA s i p c) : Mr.ofI r c.a = i := by
  unfold Mr.ofI
  rw [h.f, h.w]
  exact ca_of h.si.ok hc
theorem Rel.ofE {s : MS} {r : RS} (h : Rel s r) {i : Nat} {p : Pg} {c : Ce} (hc : CA s i p c) : (p.kind = 1 ∧ Mr.ofI r (c.a + c.n - 1) = i) ∨ (p.kind = 2 ∧ Mr.ofI r (c.a + c.n - 1) = i + pgs s.w p.size - 1) := by
  obtain ⟨g1, g2, g3, g4, g5⟩ := ca_geo h.si.ok hc
  have w0 := h.si.ok.2.1.1
  unfold Mr.ofI
  rw [h.f, h.w]
  rcases hc.2 with ⟨h2, _⟩ | ⟨h1, _⟩
  · obtain ⟨b1, b2, b3, b4⟩ := g5 h2
    refine .inr ⟨h2, ?_⟩
    have e : c.a + c.n - 1 - s.f = (i + pgs s.w p.size - 1) * s.w + (s.w - 1) := by
      rw [b1, b2, Int.sub_mul, Int.add_mul, Int.one_mul]; omega
    rw [e]
    exact (divmod (by omega) (by omega) (by omega)).1
  · have := g4 h1
    refine .inl ⟨h1, ?_⟩
    have e : c.a + c.n - 1 - s.f = i * s.w + (c.a + c.n - 1 - s.f - i * s.w) := by omega
    rw [e]
    exact (divmod (by omega) (by omega) (by omega)).1
theorem Rel.free {s : MS} {r : RS} (h : Rel s r) {n : Nat} {q : Pg} (hq : s.l[n]? = some q) : freeB r (n : Int) = (q.kind == 0) := by
  have hok := h.si.ok.2.2.2.1 q (List.mem_of_getElem? hq)
  have w0 := h.si.ok.2.1.1
  have cover : ∀ (i : Nat) (p : Pg) (c : Ce), CA s i p c → (i : Int) ≤ n → (n : Int) ≤ Mr.ofI r (c.a + c.n - 1) → freeB r (n : Int) = false := fun i p c hc h1 h2 => by
    unfold freeB
    rw [List.all_eq_false]
    refine ⟨c, (h.mem c).2 ⟨i, p, hc⟩, ?_⟩
    rw [h.ofI hc, decide_eq_true h1, decide_eq_true h2]
    simp
  cases hk : (q.kind == 0)
  · have hk0 : q.kind ≠ 0 := by simpa using hk
    rcases (by rcases hok with ⟨h1, _⟩ | ⟨h1, _, h2, h3, _⟩ <;> omega : q.kind = 1 ∨ q.kind = 2 ∨ q.kind = 3) with h1 | h2 | h3
    · have hul : 0 < q.used.length := by
        rcases hok with ⟨_, a, b, c⟩ | ⟨a, _⟩
        · have := (Int.le_ediv_iff_mul_le (by omega : 0 < q.size)).2 (by omega : 1 * q.size ≤ s.w)
          omega
        · exact absurd h1 a
      have hc : CA s n q ⟨s.f + n * s.w + (0 : Nat) * q.size, q.size, q.used[0], false⟩ := ⟨hq, .inr ⟨h1, 0, q.used[0], List.getElem?_eq_getElem hul, rfl⟩⟩
      refine cover n q _ hc (Int.le_refl _) ?_
      rcases h.ofE hc with ⟨_, e⟩ | ⟨e, _⟩
      · rw [e]; exact Int.le_refl _
      · omega
    · have hc : CA s n q ⟨s.f + n * s.w, pgs s.w q.size * s.w, true, true⟩ := ⟨hq, .inl ⟨h2, rfl⟩⟩
      refine cover n q _ hc (Int.le_refl _) ?_
      have := (ca_geo h.si.ok hc).2.2.2.2 h2
      rcases h.ofE hc with ⟨e, _⟩ | ⟨_, e⟩
      · omega
      · rw [e]; omega
    · obtain ⟨i, p, hp, h4, h5, h6⟩ := h.si.own n q hq h3
      have hc : CA s i p ⟨s.f + i * s.w, pgs s.w p.size * s.w, true, true⟩ := ⟨hp, .inl ⟨h4, rfl⟩⟩
      have := (ca_geo h.si.ok hc).2.2.2.2 h4
      refine cover i p _ hc (by omega) ?_
      rcases h.ofE hc with ⟨e, _⟩ | ⟨_, e⟩
      · omega
      · rw [e]; omega
  · have hk0 : q.kind = 0 := by simpa using hk
    unfold freeB
    rw [List.all_eq_true]
    intro c hcm
    obtain ⟨i, p, hc⟩ := (h.mem c).1 hcm
    rw [h.ofI hc]
    have : ¬ ((i : Int) ≤ n ∧ (n : Int) ≤ Mr.ofI r (c.a + c.n - 1)) := fun ⟨h1, h2⟩ => by
      rcases h.ofE hc with ⟨e1, e⟩ | ⟨e1, e⟩
      · rw [e] at h2
        obtain rfl : i = n := by omega
        have := hc.1.symm.trans hq
        cases this
        omega
      · rw [e] at h2
        by_cases hin : i = n
        · subst hin
          have := hc.1.symm.trans hq
          cases this
          omega
        · obtain ⟨q', hq', h3⟩ := h.si.big i p hc.1 e1 n (by omega) (by omega)
          rw [hq] at hq'
          cases hq'
          omega
    by_cases h1 : (i : Int) ≤ n
    · rw [decide_eq_true h1, decide_eq_false (fun h2 => this ⟨h1, h2⟩)]; rfl
    · rw [decide_eq_false h1]; rfl
theorem Rel.frN {s : MS} {r : RS} (h : Rel s r) : Mr.frN r r.p = freeN s.l := by
  have key : ∀ n, n ≤ s.l.length → (List.range n).countP (fun k : Nat => freeB r k) = (s.l.take n).countP (fun p => p.kind == 0) := by
    intro n
    induction n with
    | zero => intro _; rfl
    | succ n ih =>
      intro hn
      have hp : s.l[n]? = some s.l[n] := List.getElem?_eq_getElem (by omega)
      rw [List.range_succ, List.countP_append, ih (by omega), List.take_add_one, hp, List.countP_append]
      simp [h.free hp]
  unfold Mr.frN freeN
  rw [h.p, key _ (Nat.le_refl _), List.take_of_length_le (Nat.le_refl _)]
/-- What is in use are the used cells. -/
theorem use_ca {s : MS} {x : Int} {i k : Nat} {p : Pg} (h : Use s x i k p) : ∃ c, CA s i p c ∧ c.a = x ∧ c.u = true ∧ c.n = szP s.w p := by
  rcases h.2 with ⟨h2, rfl, hx⟩ | ⟨h1, hu, hx⟩
  · exact ⟨⟨s.f + i * s.w, pgs s.w p.size * s.w, true, true⟩, ⟨h.1, .inl ⟨h2, rfl⟩⟩, hx.symm, rfl, (if_pos h2).symm⟩
  · exact ⟨⟨s.f + i * s.w + k * p.size, p.size, true, false⟩, ⟨h.1, .inr ⟨h1, k, true, hu, rfl⟩⟩, hx.symm, rfl, (if_neg (by omega)).symm⟩
theorem ca_use {s : MS} {i : Nat} {p : Pg} {c : Ce} (h : CA s i p c) (hu : c.u = true) : ∃ k, Use s c.a i k p ∧ c.n = szP s.w p := by
  rcases h.2 with ⟨h2, rfl⟩ | ⟨h1, k, u, hk, rfl⟩
  · exact ⟨0, ⟨h.1, .inl ⟨h2, rfl, rfl⟩⟩, (if_pos h2).symm⟩
  · have hu' : u = true := hu
    subst hu'
    exact ⟨k, ⟨h.1, .inr ⟨h1, hk, rfl⟩⟩, (if_neg (by omega)).symm⟩
theorem Rel.has {s : MS} {r : RS} (h : Rel s r) (x : Int) : s.has x = true ↔ ∃ c ∈ r.cs, c.a = x ∧ c.u = true := by
  rw [has_iff h.si.ok]
  constructor
  · rintro ⟨i, k, p, hu⟩
    obtain ⟨c, h1, h2, h3, _⟩ := use_ca hu
    exact ⟨c, (h.mem c).2 ⟨i, p, h1⟩, h2, h3⟩
  · rintro ⟨c, hc, rfl, hu⟩
    obtain ⟨i, p, hca⟩ := (h.mem c).1 hc
    obtain ⟨k, hk, _⟩ := ca_use hca hu
    exact ⟨i, k, p, hk⟩
theorem Rel.size {s : MS} {r : RS} (h : Rel s r) {c : Ce} (hc : c ∈ r.cs) (hu : c.u = true) : s.size c.a = c.n := by
  obtain ⟨i, p, hca⟩ := (h.mem c).1 hc
  obtain ⟨k, hk, e⟩ := ca_use hca hu
  rw [use_size h.si.ok hk, e]
theorem Rel.fhas {s : MS} {r : RS} (h : Rel s r) (x : Int) : Mr.fhas x r = s.has x ∧ Mr.fsz x r = s.size x := by
  rcases fnd_b (x := x) (l := r.cs) (i := 0) with ⟨h1, h2⟩ | ⟨k, c, h1, h2, h3, h4⟩
  · have hh : s.has x = false := by
      cases e : s.has x
      · rfl
      · obtain ⟨c, hc, h3⟩ := (h.has x).1 e
        exact absurd h3 (h2 c hc)
    refine ⟨by unfold Mr.fhas; rw [h1, hh]; rfl, ?_⟩
    unfold Mr.fsz MS.size
    unfold MS.has at hh
    have : atO s.f s.w s.l x = none := by
      cases e : atO s.f s.w s.l x with
      | none => rfl
      | some y => rw [e] at hh; cases hh
    rw [h1, this]
    rfl
  · rw [Nat.zero_add] at h1
    have hc := List.mem_of_getElem? h2
    have hh : s.has x = true := (h.has x).2 ⟨c, hc, h3, h4⟩
    refine ⟨by unfold Mr.fhas; rw [h1, hh]; simp, ?_⟩
    unfold Mr.fsz
    rw [h1, if_pos (by omega), Int.toNat_natCast, h2, ← h3, h.size hc h4]
end Go.Proofs.Ytjgjablmkljfoaa.Mr
