/- What Give does to what is in use; what begins in a part; a space without anything in use. No condition. -/
import Derived.Test.YtjgjablmkljfoaaMatQ
set_option linter.unusedVariables false
set_option linter.unusedSimpArgs false
namespace Go.Proofs.Ytjgjablmkljfoaa.Ma
open Go.RowKit Go.Proofs.Ytjgjablmkljfoaa.W Go.Proofs.Ytjgjablmkljfoaa.Cl
/-- What Give leaves: what was given is gone, all else is as it was. -/
structure GiveOk (s s' : MS) (a : Int) : Prop where
  si : SI s'
  f : s'.f = s.f
  w : s'.w = s.w
  len : s'.l.length = s.l.length
  old : ∀ y j m q, Use s y j m q → y ≠ a → ∃ q', Use s' y j m q' ∧ szP s.w q' = szP s.w q
  only : ∀ y j m q', Use s' y j m q' → y ≠ a ∧ ∃ q, Use s y j m q
theorem give_large {s : MS} (hs : SI s) {x : Int} {i : Nat} {p : Pg} (hu : Use s x i 0 p) (h2 : p.kind = 2) (ok' : (⟨s.f, s.w, clr fre i (pgs s.w p.size).toNat s.l⟩ : MS).ok) : GiveOk s ⟨s.f, s.w, clr fre i (pgs s.w p.size).toNat s.l⟩ x := by
  obtain ⟨_, _, _, h4⟩ := use_in hs.ok hu
  obtain ⟨h5, h6, h7, h8⟩ := h4 h2
  have hc : i + (pgs s.w p.size).toNat ≤ s.l.length := by omega
  have get := clr_get (z := fre) hc
  have rg : ∀ (j : Nat) (q : Pg), s.l[j]? = some q → i ≤ j → j < i + (pgs s.w p.size).toNat → q = p ∧ j = i ∨ q.kind = 3 := fun j q hj h1 h3 => by
    by_cases e : j = i
    · subst e
      rw [hu.1] at hj; cases hj
      exact .inl ⟨rfl, rfl⟩
    · obtain ⟨q', hq', hk⟩ := hs.big i p hu.1 h2 j (by omega) h3
      rw [hj] at hq'; cases hq'
      exact .inr hk
  refine ⟨⟨ok', ?_, ?_, ?_, ?_⟩, rfl, rfl, clr_len hc, ?_, ?_⟩
  · intro j q hj hk2 t t1 t2
    simp only [get] at hj ⊢
    split at hj
    · cases hj; exact absurd hk2 (by decide)
    · rename_i hn
      obtain ⟨q', hq', hk'⟩ := hs.big j q hj hk2 t t1 t2
      refine ⟨q', ?_, hk'⟩
      replace t2 : t < j + (pgs s.w q.size).toNat := t2
      rw [if_neg]
      · exact hq'
      · intro hr
        obtain ⟨t', p', ht, hk'', h10, h11⟩ := hs.own t q' hq' hk'
        have hit : i ≠ t := fun e => by subst e; rw [hu.1] at hq'; cases hq'; omega
        -- j lies below i, its pages reach over i
        have hji : j < i := by
          rcases Nat.lt_trichotomy j i with h | h | h
          · exact h
          · omega
          · omega
        obtain ⟨q3, h12, h13⟩ := hs.big j q hj hk2 i hji (by omega)
        rw [hu.1] at h12; cases h12; omega
  · intro j q hj hk3
    simp only [get] at hj ⊢
    split at hj
    · cases hj; exact absurd hk3 (by decide)
    · rename_i hn
      obtain ⟨t, p', ht, hk', h10, h11⟩ := hs.own j q hj hk3
      refine ⟨t, p', ?_, hk', h10, h11⟩
      rw [if_neg]
      · exact ht
      · intro hr
        rcases rg t p' ht hr.1 hr.2 with ⟨rfl, rfl⟩ | h
        · omega
        · omega
  · intro j q hj hk1
    simp only [get] at hj
    split at hj
    · cases hj; exact absurd hk1 (by decide)
    · exact hs.cell j q hj hk1
  · intro j q hj e1 e2
    simp only [get] at hj
    split at hj
    · cases hj; rfl
    · exact hs.rest j q hj e1 e2
  · intro y j m q h hy
    refine ⟨q, ⟨?_, h.2⟩, rfl⟩
    show (clr fre i _ s.l)[j]? = _
    rw [get, if_neg]
    · exact h.1
    · intro hr
      rcases rg j q h.1 hr.1 hr.2 with ⟨rfl, rfl⟩ | h3
      · rcases h.2 with ⟨_, _, e⟩ | ⟨e, _⟩ <;> omega
      · rcases h.2 with ⟨e, _⟩ | ⟨e, _⟩ <;> omega
  · intro y j m q h
    have hj := h.1
    simp only [get] at hj
    split at hj
    · cases hj
      rcases h.2 with ⟨e, _⟩ | ⟨e, _⟩ <;> exact absurd e (by decide)
    · rename_i hn
      have h' : Use s y j m q := ⟨hj, h.2⟩
      refine ⟨fun e => ?_, q, h'⟩
      subst e
      have := (use_one hs.ok h' hu).1
      subst this
      exact hn ⟨Nat.le_refl _, by omega⟩
theorem give_cell {s : MS} (hs : SI s) {x : Int} {i k : Nat} {p : Pg} (hu : Use s x i k p) (h1 : p.kind = 1) (ok' : (⟨s.f, s.w, s.l.set i (gvP p k)⟩ : MS).ok) : GiveOk s ⟨s.f, s.w, s.l.set i (gvP p k)⟩ x := by
  have hil := (List.getElem?_eq_some_iff.1 hu.1).1
  have get : ∀ j : Nat, (s.l.set i (gvP p k))[j]? = if i = j then some (gvP p k) else s.l[j]? := fun j => by
    rw [List.getElem?_set]
    by_cases e : i = j
    · subst e; simp [hil]
    · simp [e]
  have huk : p.used[k]? = some true := by
    rcases hu.2 with ⟨e, _⟩ | ⟨_, e, _⟩
    · omega
    · exact e
  have hkl := (List.getElem?_eq_some_iff.1 huk).1
  have ugt : ∀ m : Nat, (p.used.set k false)[m]? = if k = m then some false else p.used[m]? := fun m => by
    rw [List.getElem?_set]
    by_cases e : k = m
    · subst e; simp [hkl]
    · simp [e]
  have hgv : (gvP p k = fre ∧ ∀ m : Nat, (p.used.set k false)[m]? ≠ some true) ∨ (gvP p k = ⟨p.kind, p.size, p.used.set k false, p.pend⟩ ∧ ∃ m : Nat, (p.used.set k false)[m]? = some true) := by
    unfold gvP
    cases hn : noneB (p.used.set k false)
    · right
      refine ⟨by simp, ?_⟩
      unfold noneB at hn
      have : (p.used.set k false).any id = true := by simpa using hn
      obtain ⟨b, hb, hb2⟩ := List.any_eq_true.1 this
      obtain ⟨m, hm⟩ := List.mem_iff_getElem?.1 hb
      simp only [id] at hb2
      subst hb2
      exact ⟨m, hm⟩
    · left
      refine ⟨by simp, fun m hm => ?_⟩
      unfold noneB at hn
      have : (p.used.set k false).any id = true := List.any_eq_true.2 ⟨true, List.mem_of_getElem? hm, rfl⟩
      rw [this] at hn; cases hn
  have hk12 : (gvP p k).kind ≠ 2 ∧ (gvP p k).kind ≠ 3 := by
    rcases hgv with ⟨e, _⟩ | ⟨e, _⟩
    · rw [e]; exact ⟨by decide, by decide⟩
    · rw [e]; exact ⟨by show p.kind ≠ 2; omega, by show p.kind ≠ 3; omega⟩
  refine ⟨⟨ok', ?_, ?_, ?_, ?_⟩, rfl, rfl, by simp, ?_, ?_⟩
  · intro j q hj hk2 t t1 t2
    simp only [get] at hj ⊢
    split at hj
    · cases hj; exact absurd hk2 hk12.1
    · obtain ⟨q', hq', hk'⟩ := hs.big j q hj hk2 t t1 t2
      refine ⟨q', ?_, hk'⟩
      rw [if_neg (fun e => by subst e; rw [hu.1] at hq'; cases hq'; omega)]
      exact hq'
  · intro j q hj hk3
    simp only [get] at hj ⊢
    split at hj
    · cases hj; exact absurd hk3 hk12.2
    · obtain ⟨t, p', ht, hk', h10, h11⟩ := hs.own j q hj hk3
      refine ⟨t, p', ?_, hk', h10, h11⟩
      rw [if_neg (fun e => by subst e; rw [hu.1] at ht; cases ht; omega)]
      exact ht
  · intro j q hj hk1
    simp only [get] at hj
    split at hj
    · cases hj
      rcases hgv with ⟨e, _⟩ | ⟨e, e2⟩
      · rw [e] at hk1; exact absurd hk1 (by decide)
      · rw [e]; exact e2
    · exact hs.cell j q hj hk1
  · intro j q hj e1 e2
    simp only [get] at hj
    split at hj
    · cases hj
      rcases hgv with ⟨e, _⟩ | ⟨e, _⟩
      · rw [e]; rfl
      · rw [e] at e1; exact absurd h1 e1
    · exact hs.rest j q hj e1 e2
  · intro y j m q h hy
    by_cases e : i = j
    · subst e
      have e2 := hu.1.symm.trans h.1
      cases e2
      rcases h.2 with ⟨h2, _⟩ | ⟨_, hm, hy2⟩
      · omega
      · have hkm : k ≠ m := fun e => by
          subst e
          rcases hu.2 with ⟨h2, _⟩ | ⟨_, _, hx⟩
          · omega
          · omega
        have hm' : (p.used.set k false)[m]? = some true := by rw [ugt, if_neg hkm]; exact hm
        rcases hgv with ⟨e, hn⟩ | ⟨e, _⟩
        · exact absurd hm' (hn m)
        · exact ⟨⟨p.kind, p.size, p.used.set k false, p.pend⟩, ⟨by show (s.l.set i _)[i]? = _; rw [get, if_pos rfl, e], .inr ⟨h1, hm', hy2⟩⟩, rfl⟩
    · exact ⟨q, ⟨by show (s.l.set i _)[j]? = _; rw [get, if_neg e]; exact h.1, h.2⟩, rfl⟩
  · intro y j m q h
    have hj := h.1
    simp only [get] at hj
    split at hj
    · rename_i e
      subst e
      cases hj
      rcases hgv with ⟨e, _⟩ | ⟨e, _⟩
      · have h3 := h.2
        rw [e] at h3
        rcases h3 with ⟨h4, _⟩ | ⟨h4, _⟩ <;> exact absurd h4 (by decide)
      · have h3 := h.2
        rw [e] at h3
        rcases h3 with ⟨h4, _⟩ | ⟨_, h4, h5⟩
        · exact absurd (h1.symm.trans h4) (by decide)
        · have h4' : (p.used.set k false)[m]? = some true := h4
          rw [ugt] at h4'
          split at h4'
          · simp at h4'
          · rename_i hkm
            have h' : Use s y i m p := ⟨hu.1, .inr ⟨h1, h4', h5⟩⟩
            refine ⟨fun e => ?_, p, h'⟩
            subst e
            exact hkm ((use_one hs.ok hu h').2.1)
    · rename_i e
      have h' : Use s y j m q := ⟨hj, h.2⟩
      refine ⟨fun e2 => ?_, q, h'⟩
      subst e2
      exact e (use_one hs.ok hu h').1
theorem give_spec {s : MS} (hs : SI s) {x : Int} {i k : Nat} {p : Pg} (hu : Use s x i k p) : GiveOk s (s.give x) x := by
  have ok' := give_ok hs.ok x
  unfold MS.give giveR at ok' ⊢
  simp only [use_at hs.ok hu, hu.1] at ok' ⊢
  rcases hu.2 with ⟨h2, rfl, _⟩ | ⟨h1, _, _⟩
  · rw [if_pos h2] at ok' ⊢
    exact give_large hs hu h2 ok'
  · have h2 : ¬ p.kind = 2 := by omega
    rw [if_neg h2] at ok' ⊢
    exact give_cell hs hu h1 ok'
theorem give_not {s : MS} {x : Int} (h : s.has x = false) : s.give x = s := by
  unfold MS.has at h
  have : atO s.f s.w s.l x = none := by
    cases ho : atO s.f s.w s.l x with
    | none => rfl
    | some y => rw [ho] at h; cases h
  unfold MS.give giveR
  rw [this]
theorem si_give {s : MS} (hs : SI s) (x : Int) : SI (s.give x) := by
  cases h : s.has x
  · rw [give_not h]; exact hs
  · obtain ⟨i, k, p, hu⟩ := (has_iff hs.ok).1 h
    exact (give_spec hs hu).si
/-- What begins in a page of cells. -/
theorem sv_iff {B sz : Int} {u : List Bool} {k : Nat} {x : Int} : x ∈ sv B sz u k ↔ ∃ j : Nat, u[j]? = some true ∧ x = B + ((k + j : Nat) : Int) * sz := by
  induction u generalizing k with
  | nil => simp [sv]
  | cons y r ih =>
    unfold sv
    rw [List.mem_append, ih]
    constructor
    · rintro (h | ⟨j, h1, h2⟩)
      · split at h
        · rename_i hy
          exact ⟨0, by simpa using hy, by simpa using h⟩
        · cases h
      · exact ⟨j + 1, by simpa using h1, by rw [h2]; congr 2; omega⟩
    · rintro ⟨j, h1, h2⟩
      cases j with
      | zero =>
        left
        simp at h1
        subst h1
        simpa using h2
      | succ j => exact .inr ⟨j, by simpa using h1, by rw [h2]; congr 2; omega⟩
theorem stP_iff {s : MS} (hs : s.ok) {i : Nat} {p : Pg} (hp : s.l[i]? = some p) {x : Int} : x ∈ stP s.f s.w i p ↔ ∃ k, Use s x i k p := by
  have hpk := hs.2.2.2.1 p (List.mem_of_getElem? hp)
  unfold stP
  by_cases h2 : p.kind = 2
  · rw [if_pos h2]
    constructor
    · intro h; exact ⟨0, hp, .inl ⟨h2, rfl, by simpa using h⟩⟩
    · rintro ⟨k, _, h | h⟩
      · simpa using h.2.2
      · omega
  · rw [if_neg h2, sv_iff]
    constructor
    · rintro ⟨j, h1, h3⟩
      have hk1 : p.kind = 1 := by
        rcases hpk with ⟨h, _⟩ | ⟨_, h, _⟩
        · exact h
        · rw [h] at h1; simp at h1
      exact ⟨j, hp, .inr ⟨hk1, h1, by rw [h3, Nat.zero_add]⟩⟩
    · rintro ⟨k, _, h | h⟩
      · exact absurd h.1 h2
      · exact ⟨k, h.2.1, by rw [Nat.zero_add]; exact h.2.2⟩
theorem stL_iff {s : MS} (hs : s.ok) {fr te x : Int} : ∀ (n j : Nat), n = s.l.length - j → (x ∈ stL s.f s.w fr te (s.l.drop j) j ↔ fr ≤ x ∧ x < te ∧ ∃ i k p, j ≤ i ∧ Use s x i k p) := by
  intro n
  induction n with
  | zero =>
    intro j hn
    rw [List.drop_of_length_le (by omega)]
    constructor
    · intro h; cases h
    · rintro ⟨_, _, i, k, p, h1, h2⟩
      have := (List.getElem?_eq_some_iff.1 h2.1).1
      omega
  | succ n ih =>
    intro j hn
    have hj : j < s.l.length := by omega
    have hp : s.l[j]? = some s.l[j] := List.getElem?_eq_getElem hj
    rw [stL_drop hp, List.mem_append, ih (j + 1) (by omega)]
    constructor
    · rintro (h | ⟨h1, h2, i, k, p, h3, h4⟩)
      · split at h
        · cases h
        · unfold inn at h
          rw [List.mem_filter] at h
          obtain ⟨h1, h2⟩ := h
          simp only [Bool.and_eq_true, decide_eq_true_eq] at h2
          obtain ⟨k, hk⟩ := (stP_iff hs hp).1 h1
          exact ⟨h2.1, h2.2, j, k, _, Nat.le_refl _, hk⟩
      · exact ⟨h1, h2, i, k, p, by omega, h4⟩
    · rintro ⟨h1, h2, i, k, p, h3, h4⟩
      by_cases e : i = j
      · subst e
        have e2 := hp.symm.trans h4.1
        left
        obtain ⟨a1, a2, a3, a4⟩ := use_in hs h4
        have w0 := hs.2.1.1
        have hlt : x < s.f + i * s.w + s.w := by
          rcases h4.2 with ⟨b1, _⟩ | ⟨b1, _⟩
          · have := a4 b1; omega
          · have := a3 b1; omega
        rw [if_neg (by omega)]
        unfold inn
        rw [List.mem_filter]
        exact ⟨(stP_iff hs hp).2 ⟨k, by cases e2; exact h4⟩, by simp [h1, h2]⟩
      · exact .inr ⟨h1, h2, i, k, p, by omega, h4⟩
theorem starts_iff {s : MS} (hs : s.ok) {fr te x : Int} : x ∈ stL s.f s.w fr te s.l 0 ↔ fr ≤ x ∧ x < te ∧ s.has x = true := by
  have := stL_iff hs (fr := fr) (te := te) (x := x) s.l.length 0 (by omega)
  rw [List.drop_zero] at this
  rw [this, has_iff hs]
  constructor
  · rintro ⟨h1, h2, i, k, p, _, h⟩; exact ⟨h1, h2, i, k, p, h⟩
  · rintro ⟨h1, h2, i, k, p, h⟩; exact ⟨h1, h2, i, k, p, by omega, h⟩
/-- Where nothing is in use all pages are free. -/
theorem none_free {s : MS} (hs : SI s) (h : ∀ x, s.has x = false) : ∀ p ∈ s.l, p.kind = 0 ∧ p.used = [] := by
  have no : ∀ x i k p, ¬ Use s x i k p := fun x i k p hu => by
    have := (has_iff hs.ok).2 ⟨i, k, p, hu⟩
    rw [h] at this; cases this
  have n2 : ∀ (i : Nat) (p : Pg), s.l[i]? = some p → p.kind ≠ 2 := fun i p hp h2 => no _ i 0 p ⟨hp, .inl ⟨h2, rfl, rfl⟩⟩
  intro p hp
  obtain ⟨i, hi⟩ := List.mem_iff_getElem?.1 hp
  have hk2 := n2 i p hi
  have hk1 : p.kind ≠ 1 := fun h1 => by
    obtain ⟨k, hk⟩ := hs.cell i p hi h1
    exact no _ i k p ⟨hi, .inr ⟨h1, hk, rfl⟩⟩
  have hk3 : p.kind ≠ 3 := fun h3 => by
    obtain ⟨t, p', ht, h2, _⟩ := hs.own i p hi h3
    exact n2 t p' ht h2
  rcases hs.ok.2.2.2.1 p hp with ⟨h1, _⟩ | ⟨_, h1, h4, h5, _⟩
  · exact absurd h1 hk1
  · exact ⟨by omega, h1⟩
theorem none_all {s : MS} (hs : SI s) (h : ∀ x, s.has x = false) : freeN s.l = s.l.length ∧ usL s.f s.w s.l s.l 0 = 0 ∧ ∀ fr te, stL s.f s.w fr te s.l 0 = [] := by
  have hp := none_free hs h
  refine ⟨?_, ?_, fun fr te => ?_⟩
  · unfold freeN
    rw [List.countP_eq_length]
    intro p hm
    simp [(hp p hm).1]
  · have : ∀ (l : List Pg) (i : Nat), (∀ p ∈ l, p.kind = 0 ∧ p.used = []) → usL s.f s.w s.l l i = 0 := by
      intro l
      induction l with
      | nil => intro i _; rfl
      | cons p r ih =>
        intro i hl
        obtain ⟨h1, h2⟩ := hl p List.mem_cons_self
        unfold usL
        rw [ih (i + 1) (fun q hq => hl q (List.mem_cons_of_mem _ hq))]
        have : stP s.f s.w i p = [] := by unfold stP; rw [if_neg (by omega), h2]; rfl
        rw [this]; rfl
    exact this s.l 0 hp
  · have := fun x => starts_iff hs.ok (fr := fr) (te := te) (x := x)
    apply List.eq_nil_iff_forall_not_mem.2
    intro x hx
    have h1 := (this x).1 hx
    rw [h] at h1
    cases h1.2.2
end Go.Proofs.Ytjgjablmkljfoaa.Ma
