/- What is held while pages are pending. No condition. -/
import Derived.Test.YtjgjablmkljfoaaMatT
set_option linter.unusedVariables false
set_option linter.unusedSimpArgs false
namespace Go.Proofs.Ytjgjablmkljfoaa.Ma
open Go.RowKit Go.Proofs.Ytjgjablmkljfoaa.W Go.Proofs.Ytjgjablmkljfoaa.Cl
theorem si_take {s : MS} (hs : SI s) {x : Int} (hx : x ≤ 9223372036854775807) : SI (s.take x) := by
  cases h : s.took x with
  | none => rw [take_none h]; exact hs
  | some a => exact (take_spec hs hx h).si
/-- A space over so many pages. -/
structure PI (f n : Int) (p : Nat) (s : MS) : Prop where
  si : SI s
  f : s.f = f
  w : s.w = n
  len : s.l.length = p
theorem PI.take {f n : Int} {p : Nat} {s : MS} (h : PI f n p s) {x : Int} (hx : x ≤ 9223372036854775807) : PI f n p (s.take x) := by
  cases ht : s.took x with
  | none => rw [take_none ht]; exact h
  | some a =>
    have t := take_spec h.si hx ht
    exact ⟨t.si, t.f.trans h.f, t.w.trans h.w, t.len.trans h.len⟩
theorem PI.give {f n : Int} {p : Nat} {s : MS} (h : PI f n p s) (x : Int) : PI f n p (s.give x) := by
  cases hh : s.has x
  · rw [give_not hh]; exact h
  · obtain ⟨i, k, q, hu⟩ := (has_iff h.si.ok).1 hh
    have t := give_spec h.si hu
    exact ⟨t.si, t.f.trans h.f, t.w.trans h.w, t.len.trans h.len⟩
theorem pend_get {s : MS} (j : Nat) : s.pend.l[j]? = s.l[j]?.map pdP := by simp [MS.pend]
theorem si_pend {s : MS} (hs : SI s) : SI s.pend := by
  have g : ∀ (j : Nat) (q : Pg), s.pend.l[j]? = some q → ∃ p, s.l[j]? = some p ∧ q = pdP p := fun j q h => by
    rw [pend_get] at h
    obtain ⟨p, hp, e⟩ := Option.map_eq_some_iff.1 h
    exact ⟨p, hp, e.symm⟩
  refine ⟨pend_ok hs.ok, ?_, ?_, ?_, ?_⟩
  · intro i q hq hk j h1 h2
    obtain ⟨p, hp, rfl⟩ := g i q hq
    obtain ⟨r, hr, h3⟩ := hs.big i p hp hk j h1 h2
    exact ⟨pdP r, by rw [pend_get, hr]; rfl, h3⟩
  · intro j q hq hk
    obtain ⟨p, hp, rfl⟩ := g j q hq
    obtain ⟨i, r, hr, h2, h3, h4⟩ := hs.own j p hp hk
    exact ⟨i, pdP r, by rw [pend_get, hr]; rfl, h2, h3, h4⟩
  · intro i q hq hk
    obtain ⟨p, hp, rfl⟩ := g i q hq
    exact hs.cell i p hp hk
  · intro i q hq h1 h2
    obtain ⟨p, hp, rfl⟩ := g i q hq
    have e1 : p.kind ≠ 1 := h1
    have e2 : p.kind ≠ 2 := h2
    simp [pdP, e1, e2]
theorem PI.pend {f n : Int} {p : Nat} {s : MS} (h : PI f n p s) : PI f n p s.pend := ⟨si_pend h.si, h.f, h.w, by simp [MS.pend, h.len]⟩
theorem use_pend {s : MS} {x : Int} {i k : Nat} {p : Pg} (h : Use s x i k p) : Use s.pend x i k (pdP p) := ⟨by rw [pend_get, h.1]; rfl, h.2⟩
/-- Pages that are held. -/
def HeldOk (s : MS) (H : List Bool) : Prop := ∀ j : Nat, H[j]? = some true → ∃ p, s.l[j]? = some p ∧ p.kind ≠ 0 ∧ (p.kind = 1 → p.pend = true)
theorem held_take {s s' : MS} {a x : Int} {H : List Bool} (h : HeldOk s H) (t : TakeOk s s' a x) : HeldOk s' H := fun j hj => by
  obtain ⟨p, h1, h2, h3⟩ := h j hj
  exact ⟨p, t.held j p h1 h2 h3, h2, h3⟩
theorem held_new {s s' : MS} {a x : Int} {H : List Bool} (h : HeldOk s H) (t : TakeOk s s' a x) : s.f ≤ a ∧ (a - s.f) / s.w < s.l.length ∧ 0 ≤ (a - s.f) / s.w ∧ H[((a - s.f) / s.w).toNat]? ≠ some true := by
  obtain ⟨i, k, p, hu, _, p0, hp0, hk⟩ := t.new
  have h1 := (atO_some (use_at t.si.ok hu))
  rw [t.f, t.w] at h1
  have w0 := t.si.ok.2.1.1
  rw [t.w] at w0
  have hd0 : 0 ≤ (a - s.f) / s.w := Int.ediv_nonneg (by omega) (by omega)
  have hil := (List.getElem?_eq_some_iff.1 hp0).1
  refine ⟨h1.1, by omega, hd0, fun e => ?_⟩
  rw [← h1.2.1] at e
  obtain ⟨q, hq, h2, h3⟩ := h i e
  rw [hp0] at hq
  cases hq
  rcases hk with hk | ⟨hk, hk2⟩
  · exact h2 hk
  · rw [h3 hk] at hk2; cases hk2
theorem div_in {w i c r : Int} (hw : 1 ≤ w) (h0 : i * w ≤ r) (h1 : r < (i + c) * w) : i ≤ r / w ∧ r / w < i + c :=
  ⟨(Int.le_ediv_iff_mul_le (by omega)).2 h0, (Int.ediv_lt_iff_lt_mul (by omega)).2 h1⟩
theorem held_mark {s : MS} (hs : SI s) {H : List Bool} (h : HeldOk s.pend H) {x y : Int} (hx : s.has x = true) (h0 : x ≤ y) (h1 : y < x + s.size x) : s.f ≤ y ∧ 0 ≤ (y - s.f) / s.w ∧ (y - s.f) / s.w < s.l.length ∧ HeldOk s.pend (H.set ((y - s.f) / s.w).toNat true) := by
  obtain ⟨i, k, p, hu⟩ := (has_iff hs.ok).1 hx
  rw [use_size hs.ok hu] at h1
  have he := use_end hs.ok hu
  have w0 := hs.ok.2.1.1
  obtain ⟨a1, a2, a3, a4⟩ := use_in hs.ok hu
  have hd0 : 0 ≤ (y - s.f) / s.w := Int.ediv_nonneg (by omega) (by omega)
  have hdl : (y - s.f) / s.w < s.l.length := (Int.ediv_lt_iff_lt_mul (by omega)).2 (by omega)
  have key : ∃ q, s.l[((y - s.f) / s.w).toNat]? = some q ∧ q.kind ≠ 0 := by
    rcases hu.2 with ⟨h2, _⟩ | ⟨h2, _⟩
    · obtain ⟨b1, b2, b3, b4⟩ := a4 h2
      obtain ⟨d1, d2⟩ := div_in (w := s.w) (i := i) (c := pgs s.w p.size) (r := y - s.f) w0 (by omega) (by rw [Int.add_mul]; omega)
      by_cases e : ((y - s.f) / s.w).toNat = i
      · rw [e]; exact ⟨p, hu.1, by omega⟩
      · obtain ⟨q, hq, hk⟩ := hs.big i p hu.1 h2 ((y - s.f) / s.w).toNat (by omega) (by omega)
        exact ⟨q, hq, by omega⟩
    · have b := a3 h2
      obtain ⟨d1, d2⟩ := div_in (w := s.w) (i := i) (c := 1) (r := y - s.f) w0 (by omega) (by rw [Int.add_mul]; omega)
      rw [show ((y - s.f) / s.w).toNat = i by omega]
      exact ⟨p, hu.1, by omega⟩
  refine ⟨by omega, hd0, hdl, fun j hj => ?_⟩
  rw [List.getElem?_set] at hj
  split at hj
  · rename_i e
    subst e
    obtain ⟨q, hq, hk⟩ := key
    refine ⟨pdP q, by rw [pend_get, hq]; rfl, hk, fun h1 => ?_⟩
    have e1 : q.kind = 1 := h1
    simp [pdP, e1]
  · exact h j hj
theorem size_pend {s : MS} (hs : SI s) {x : Int} (hx : s.has x = true) : s.pend.size x = s.size x ∧ s.pend.has x = true := by
  obtain ⟨i, k, p, hu⟩ := (has_iff hs.ok).1 hx
  refine ⟨?_, (has_iff (pend_ok hs.ok)).2 ⟨i, k, _, use_pend hu⟩⟩
  rw [use_size hs.ok hu, use_size (pend_ok hs.ok) (use_pend hu)]
  rfl
theorem size_b {f n : Int} {p : Nat} {s : MS} (h : PI f n p s) {x : Int} (hx : s.has x = true) : 1 ≤ s.size x ∧ f ≤ x ∧ x + s.size x ≤ f + p * n := by
  obtain ⟨i, k, q, hu⟩ := (has_iff h.si.ok).1 hx
  rw [use_size h.si.ok hu]
  have h1 := use_end h.si.ok hu
  rw [h.f, h.len] at h1
  have h2 := (use_in h.si.ok hu).2.1
  rw [h.w] at h1 h2 ⊢
  exact ⟨h2, h1⟩
theorem stl_len {s : MS} (hs : s.ok) {fr te : Int} : ∀ (n j : Nat), n = s.l.length - j → (stL s.f s.w fr te (s.l.drop j) j).length ≤ n * 256 := by
  intro n
  induction n with
  | zero =>
    intro j hn
    rw [List.drop_of_length_le (by omega)]
    exact Nat.le_refl _
  | succ n ih =>
    intro j hn
    have hj : j < s.l.length := by omega
    have hp : s.l[j]? = some s.l[j] := List.getElem?_eq_getElem hj
    rw [stL_drop hp, List.length_append]
    have h1 := ih (j + 1) (by omega)
    have h2 := (stP_b (hs.mw (g0_map s.l)) (g0_get hp)).1
    have h3 : (if s.f + j * s.w + s.w ≤ fr ∨ te ≤ s.f + j * s.w then [] else inn fr te (stP s.f s.w j s.l[j])).length ≤ 256 := by
      split
      · exact Nat.zero_le _
      · exact Nat.le_trans (List.length_filter_le _ _) h2
    omega
theorem starts_len {s : MS} (hs : s.ok) (fr te : Int) : (stL s.f s.w fr te s.l 0).length ≤ 16384 := by
  have h := stl_len hs (fr := fr) (te := te) s.l.length 0 (by omega)
  rw [List.drop_zero] at h
  have := hs.2.2.1
  omega
/-- How many pages are pending. -/
def pc (l : List Pg) : Nat := l.countP (·.pend)
theorem pn_some {l : List Pg} {k : Nat} (h : pn l = some k) : ∃ p, l[k]? = some p ∧ p.pend = true := by
  induction l generalizing k with
  | nil => cases h
  | cons p r ih =>
    unfold pn at h
    split at h
    · rename_i hp
      cases h
      exact ⟨p, rfl, hp⟩
    · obtain ⟨j, hj, rfl⟩ := Option.map_eq_some_iff.1 h
      obtain ⟨q, hq, e⟩ := ih hj
      exact ⟨q, by simpa using hq, e⟩
theorem pc_set {l : List Pg} {k : Nat} {p : Pg} (h : l[k]? = some p) (hp : p.pend = true) : pc (l.set k (unP p)) + 1 = pc l := by
  induction l generalizing k with
  | nil => cases h
  | cons q r ih =>
    cases k with
    | zero =>
      simp only [List.getElem?_cons_zero, Option.some.injEq] at h
      subst h
      simp [pc, List.set_cons_zero, List.countP_cons, hp, unP]
    | succ k =>
      have := ih (k := k) (by simpa using h)
      simp only [pc, List.set_cons_succ, List.countP_cons] at this ⊢
      omega
theorem done_pn {s : MS} {k : Nat} (h : pn s.l = some k) : doneB s.l k = true ∧ pc (s.done k).l + 1 = pc s.l ∧ doneB (s.done k).l k = false ∧ (s.done k).l.length = s.l.length ∧ (s.done k).done k = s.done k := by
  obtain ⟨p, hp, h1⟩ := pn_some h
  have d1 : doneB s.l k = true := by
    unfold doneB
    rw [if_pos (by omega), Int.toNat_natCast, hp]
    exact h1
  have e : (s.done k).l = s.l.set k (unP p) := by
    unfold MS.done doneR
    rw [if_pos d1, Int.toNat_natCast]
    exact modify_set hp unP
  have d2 : doneB (s.done k).l k = false := by
    unfold doneB
    rw [if_pos (by omega), Int.toNat_natCast, e, List.getElem?_set, if_pos rfl, if_pos (List.getElem?_eq_some_iff.1 hp).1]
    rfl
  refine ⟨d1, by rw [e]; exact pc_set hp h1, d2, by rw [e]; simp, ?_⟩
  show (⟨_, _, doneR (s.done k).l k⟩ : MS) = _
  unfold doneR
  rw [d2]
  rfl
theorem PI.done {f n : Int} {p : Nat} {s : MS} (h : PI f n p s) (k : Int) : PI f n p (s.done k) := by
  by_cases hd : doneB s.l k = true
  · have e : (s.done k).l = s.l.modify k.toNat unP := by unfold MS.done doneR; rw [if_pos hd]
    have g : ∀ (j : Nat) (q : Pg), (s.done k).l[j]? = some q → ∃ p, s.l[j]? = some p ∧ q.kind = p.kind ∧ q.size = p.size ∧ q.used = p.used ∧ (q = p ∨ q.pend = false) := fun j q h => by
      rw [e, List.getElem?_modify] at h
      obtain ⟨p, hp, rfl⟩ := Option.map_eq_some_iff.1 h
      refine ⟨p, hp, ?_⟩
      split
      · exact ⟨rfl, rfl, rfl, .inr rfl⟩
      · exact ⟨rfl, rfl, rfl, .inl rfl⟩
    have g' : ∀ (j : Nat) (p : Pg), s.l[j]? = some p → ∃ q, (s.done k).l[j]? = some q ∧ q.kind = p.kind ∧ q.size = p.size := fun j p h => by
      rw [e, List.getElem?_modify, h]
      refine ⟨_, rfl, ?_⟩
      split <;> exact ⟨rfl, rfl⟩
    refine ⟨⟨done_ok h.si.ok k, ?_, ?_, ?_, ?_⟩, h.f, h.w, by rw [e, List.length_modify]; exact h.len⟩
    · intro i q hq hk j h1 h2
      obtain ⟨p, hp, e1, e2, _⟩ := g i q hq
      rw [e2] at h2
      obtain ⟨r, hr, h3⟩ := h.si.big i p hp (e1 ▸ hk) j h1 h2
      obtain ⟨r', hr', e3, _⟩ := g' j r hr
      exact ⟨r', hr', e3.trans h3⟩
    · intro j q hq hk
      obtain ⟨p, hp, e1, e2, _⟩ := g j q hq
      obtain ⟨i, r, hr, h2, h3, h4⟩ := h.si.own j p hp (e1 ▸ hk)
      obtain ⟨r', hr', e3, e4⟩ := g' i r hr
      exact ⟨i, r', hr', e3.trans h2, h3, by rw [e4]; exact h4⟩
    · intro i q hq hk
      obtain ⟨p, hp, e1, e2, e3, _⟩ := g i q hq
      rw [e3]
      exact h.si.cell i p hp (e1 ▸ hk)
    · intro i q hq h1 h2
      obtain ⟨p, hp, e1, e2, e3, e4⟩ := g i q hq
      rcases e4 with e4 | e4
      · rw [e4]; exact h.si.rest i p hp (e1 ▸ h1) (e1 ▸ h2)
      · exact e4
  · have : s.done k = s := by
      unfold MS.done doneR
      rw [if_neg hd]
    rw [this]; exact h
theorem pc_le (l : List Pg) : pc l ≤ l.length := List.countP_le_length
theorem pi_new {f n : Int} {p : Nat} (h0 : 0 ≤ f ∧ f ≤ 1048576) (h1 : 1 ≤ n ∧ n ≤ 256) (h2 : p ≤ 64) : PI f n p (mnew f p n) := by
  have := ai_new h0 h1 h2
  exact ⟨this.si, this.f, this.w, this.len⟩
end Go.Proofs.Ytjgjablmkljfoaa.Ma
