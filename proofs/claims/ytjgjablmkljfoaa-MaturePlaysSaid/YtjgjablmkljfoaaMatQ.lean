/- What Take does to what is in use. No condition. -/
import Derived.Test.YtjgjablmkljfoaaMatP
set_option linter.unusedVariables false
set_option linter.unusedSimpArgs false
namespace Go.Proofs.Ytjgjablmkljfoaa.Ma
open Go.RowKit Go.Proofs.Ytjgjablmkljfoaa.W Go.Proofs.Ytjgjablmkljfoaa.Cl
theorem rowGo_free {c : Int} {V : List Pg} (hc : 1 ≤ c) : ∀ (n i : Nat) (r q : Int), n = V.length - i → rowGo c (V.drop i) i r = some q → 0 ≤ r → r ≤ i → (∀ j : Nat, (i : Int) - r ≤ j → j < i → ∃ p, V[j]? = some p ∧ p.kind = 0) → ∀ j : Nat, q ≤ j → (j : Int) < q + c → ∃ p, V[j]? = some p ∧ p.kind = 0 := by
  intro n
  induction n with
  | zero =>
    intro i r q hn h
    rw [List.drop_of_length_le (by omega)] at h
    cases h
  | succ n ih =>
    intro i r q hn h r0 r1 hf
    have hi : i < V.length := by omega
    rw [List.drop_eq_getElem_cons hi] at h
    have hg : V[i]? = some V[i] := List.getElem?_eq_getElem hi
    simp only [rowGo] at h
    have e : ((i : Int) + 1) = ((i + 1 : Nat) : Int) := by omega
    split at h
    · rw [e] at h
      exact ih (i + 1) 0 q (by omega) h (Int.le_refl 0) (by omega) (fun j h1 h2 => by omega)
    · rename_i hk
      have hk : V[i].kind = 0 := by simpa using hk
      have hf' : ∀ j : Nat, ((i + 1 : Nat) : Int) - (r + 1) ≤ j → j < i + 1 → ∃ p, V[j]? = some p ∧ p.kind = 0 := fun j h1 h2 => by
        by_cases hj : j = i
        · subst hj; exact ⟨_, hg, hk⟩
        · exact hf j (by omega) (by omega)
      split at h
      · rename_i hrc
        cases h
        intro j h1 h2
        exact hf' j (by omega) (by omega)
      · rw [e] at h
        exact ih (i + 1) (r + 1) q (by omega) h (by omega) (by omega) hf'
theorem row_free {c : Int} {l : List Pg} (hc : 1 ≤ c) {q : Int} (h : rowGo c l 0 0 = some q) : ∃ n : Nat, q = n ∧ (n : Int) + c ≤ l.length ∧ ∀ j : Nat, n ≤ j → (j : Int) < n + c → ∃ p, l[j]? = some p ∧ p.kind = 0 := by
  obtain ⟨q0, q1⟩ := rowGo_b h (Int.le_refl 0)
  refine ⟨q.toNat, by omega, by omega, fun j h1 h2 => ?_⟩
  exact rowGo_free hc l.length 0 0 q (by omega) h (Int.le_refl 0) (Int.le_refl 0) (fun j h1 h2 => by omega) j (by omega) (by omega)
theorem fz_false {u : List Bool} {k : Nat} (h : fz u = some k) : u[k]? = some false := by
  induction u generalizing k with
  | nil => cases h
  | cons x r ih =>
    cases x with
    | false => simp [fz] at h; subst h; rfl
    | true =>
      simp only [fz, Option.map_eq_some_iff] at h
      obtain ⟨a, ha, rfl⟩ := h
      simpa using ih ha
theorem fillM_len (q k : Nat) (l : List Pg) : (fillM q k l).length = l.length := by
  induction k with
  | zero => rfl
  | succ k ih => unfold fillM; rw [List.length_set, ih]
theorem fillM_get {q k : Nat} {l : List Pg} (h : q + k ≤ l.length) (j : Nat) : (fillM q k l)[j]? = if q ≤ j ∧ j < q + k then some more else l[j]? := by
  induction k with
  | zero => rw [if_neg (by omega)]; rfl
  | succ k ih =>
    unfold fillM
    rw [List.getElem?_set, fillM_len]
    by_cases e : q + k = j
    · rw [if_pos e, if_pos (by omega), if_pos (by omega)]
    · rw [if_neg e, ih (by omega)]
      by_cases e2 : q ≤ j ∧ j < q + k
      · rw [if_pos e2, if_pos (by omega)]
      · rw [if_neg e2, if_neg (by omega)]
/-- What Take leaves: a is new, all else is as it was. -/
structure TakeOk (s s' : MS) (a x : Int) : Prop where
  si : SI s'
  f : s'.f = s.f
  w : s'.w = s.w
  len : s'.l.length = s.l.length
  new : ∃ i k p, Use s' a i k p ∧ (x ≤ 1099511627776 → x ≤ szP s.w p) ∧ ∃ p0, s.l[i]? = some p0 ∧ (p0.kind = 0 ∨ (p0.kind = 1 ∧ p0.pend = false))
  old : ∀ y j m q, Use s y j m q → y ≠ a ∧ ∃ q', Use s' y j m q' ∧ szP s.w q' = szP s.w q
  only : ∀ y j m q', Use s' y j m q' → y = a ∨ ∃ q, Use s y j m q
  held : ∀ (j : Nat) (p : Pg), s.l[j]? = some p → p.kind ≠ 0 → (p.kind = 1 → p.pend = true) → s'.l[j]? = some p
theorem mark_take {s : MS} (hs : SI s) {i k : Nat} {p : Pg} (hp : s.l[i]? = some p) (h1 : p.kind = 1) (hpe : p.pend = false) (hk : p.used[k]? = some false) {x : Int} (hx : x ≤ 1099511627776 → x ≤ p.size) (ok' : (⟨s.f, s.w, s.l.set i ⟨p.kind, p.size, p.used.set k true, p.pend⟩⟩ : MS).ok) :
    TakeOk s ⟨s.f, s.w, s.l.set i ⟨p.kind, p.size, p.used.set k true, p.pend⟩⟩ (s.f + i * s.w + k * p.size) x := by
  have hil := (List.getElem?_eq_some_iff.1 hp).1
  have hkl := (List.getElem?_eq_some_iff.1 hk).1
  have w0 := hs.ok.2.1.1
  have hpk := hs.ok.2.2.2.1 p (List.mem_of_getElem? hp)
  obtain ⟨c0, _, _⟩ := cell_fits w0 hpk h1 hkl
  have get : ∀ j : Nat, (s.l.set i ⟨p.kind, p.size, p.used.set k true, p.pend⟩)[j]? = if i = j then some ⟨p.kind, p.size, p.used.set k true, p.pend⟩ else s.l[j]? := fun j => by
    rw [List.getElem?_set]
    by_cases e : i = j
    · subst e; simp [hil]
    · simp [e]
  have ugt : ∀ m : Nat, (p.used.set k true)[m]? = if k = m then some true else p.used[m]? := fun m => by
    rw [List.getElem?_set]
    by_cases e : k = m
    · subst e; simp [hkl]
    · simp [e]
  refine ⟨⟨ok', ?_, ?_, ?_, ?_⟩, rfl, rfl, by simp, ?_, ?_, ?_, ?_⟩
  · intro j q hj hk2 t h2 h3
    simp only [get] at hj ⊢
    split at hj
    · cases hj; exact absurd (h1.symm.trans hk2) (by decide)
    · obtain ⟨q', hq', hk'⟩ := hs.big j q hj hk2 t h2 h3
      refine ⟨q', ?_, hk'⟩
      rw [if_neg (fun e => by subst e; rw [hp] at hq'; cases hq'; omega)]
      exact hq'
  · intro j q hj hk3
    simp only [get] at hj ⊢
    split at hj
    · cases hj; exact absurd (h1.symm.trans hk3) (by decide)
    · obtain ⟨t, p', ht, hk', h2, h3⟩ := hs.own j q hj hk3
      refine ⟨t, p', ?_, hk', h2, h3⟩
      rw [if_neg (fun e => by subst e; rw [hp] at ht; cases ht; omega)]
      exact ht
  · intro j q hj hk1
    simp only [get] at hj
    split at hj
    · cases hj
      exact ⟨k, by show (p.used.set k true)[k]? = _; rw [ugt, if_pos rfl]⟩
    · exact hs.cell j q hj hk1
  · intro j q hj h2 h3
    simp only [get] at hj
    split at hj
    · cases hj; exact absurd h1 h2
    · exact hs.rest j q hj h2 h3
  · refine ⟨i, k, ⟨p.kind, p.size, p.used.set k true, p.pend⟩, ⟨by rw [get, if_pos rfl], .inr ⟨h1, ?_, rfl⟩⟩, fun h => ?_, p, hp, .inr ⟨h1, hpe⟩⟩
    · show (p.used.set k true)[k]? = _
      rw [ugt, if_pos rfl]
    · show x ≤ szP s.w _
      have : szP s.w ⟨p.kind, p.size, p.used.set k true, p.pend⟩ = p.size := if_neg (by show ¬ p.kind = 2; omega)
      rw [this]; exact hx h
  · intro y j m q h
    by_cases e : i = j
    · subst e
      have e2 := hp.symm.trans h.1
      cases e2
      rcases h.2 with ⟨h2, _⟩ | ⟨_, hu, hy⟩
      · omega
      · have hkm : k ≠ m := fun e => by subst e; rw [hk] at hu; simp at hu
        refine ⟨?_, ⟨p.kind, p.size, p.used.set k true, p.pend⟩, ⟨by rw [get, if_pos rfl], .inr ⟨h1, ?_, hy⟩⟩, ?_⟩
        · intro e
          have : (m : Int) * p.size = k * p.size := by omega
          have := Int.eq_of_mul_eq_mul_right (by omega : p.size ≠ 0) this
          omega
        · show (p.used.set k true)[m]? = _
          rw [ugt, if_neg hkm]; exact hu
        · unfold szP; rfl
    · refine ⟨?_, q, ⟨by show (s.l.set i _)[j]? = _; rw [get, if_neg e]; exact h.1, h.2⟩, rfl⟩
      intro e3
      have hn : Use (⟨s.f, s.w, s.l.set i ⟨p.kind, p.size, p.used.set k true, p.pend⟩⟩ : MS) y i k ⟨p.kind, p.size, p.used.set k true, p.pend⟩ := ⟨by rw [get, if_pos rfl], .inr ⟨h1, by show (p.used.set k true)[k]? = _; rw [ugt, if_pos rfl], e3⟩⟩
      have ho : Use (⟨s.f, s.w, s.l.set i ⟨p.kind, p.size, p.used.set k true, p.pend⟩⟩ : MS) y j m q := ⟨by show (s.l.set i _)[j]? = _; rw [get, if_neg e]; exact h.1, h.2⟩
      exact e (use_one ok' hn ho).1
  · intro y j m q h
    have hj := h.1
    simp only [get] at hj
    split at hj
    · rename_i e
      subst e
      cases hj
      rcases h.2 with ⟨h2, _⟩ | ⟨_, hu, hy⟩
      · exact absurd (h1.symm.trans h2) (by decide)
      · have hu' : (p.used.set k true)[m]? = some true := hu
        rw [ugt] at hu'
        split at hu'
        · rename_i e; subst e; exact .inl hy
        · exact .inr ⟨p, hp, .inr ⟨h1, hu', hy⟩⟩
    · exact .inr ⟨q, hj, h.2⟩
  · intro j q hj h0 hh
    simp only [get]
    split
    · rename_i e
      subst e
      have e2 := hp.symm.trans hj
      cases e2
      have := hh h1
      rw [hpe] at this; cases this
    · exact hj
theorem fresh_take {s : MS} (hs : SI s) {l' : List Pg} {q c : Nat} {P : Pg} (hl : l'.length = s.l.length) (hget : ∀ j : Nat, l'[j]? = if j = q then some P else if q < j ∧ j < q + c then some more else s.l[j]?) (hc : 1 ≤ c)
    (hf : ∀ j : Nat, q ≤ j → j < q + c → ∃ p, s.l[j]? = some p ∧ p.kind = 0) (hP : (P.kind = 1 ∧ c = 1 ∧ ∀ k : Nat, P.used[k]? = some true ↔ k = 0) ∨ (P.kind = 2 ∧ (pgs s.w P.size).toNat = c)) {x : Int} (hx : x ≤ 1099511627776 → x ≤ szP s.w P) (ok' : (⟨s.f, s.w, l'⟩ : MS).ok) :
    TakeOk s ⟨s.f, s.w, l'⟩ (s.f + q * s.w) x := by
  have out : ∀ (j : Nat) (p : Pg), s.l[j]? = some p → p.kind ≠ 0 → l'[j]? = some p := fun j p hj h0 => by
    rw [hget]
    have hn : ¬ (q ≤ j ∧ j < q + c) := fun h => by
      obtain ⟨p', h1, h2⟩ := hf j h.1 h.2
      rw [hj] at h1; cases h1; exact h0 h2
    rw [if_neg (by omega), if_neg (by omega)]
    exact hj
  have hq : l'[q]? = some P := by rw [hget, if_pos rfl]
  have new : Use (⟨s.f, s.w, l'⟩ : MS) (s.f + q * s.w) q 0 P := by
    refine ⟨hq, ?_⟩
    rcases hP with ⟨h1, _, h2⟩ | ⟨h1, _⟩
    · exact .inr ⟨h1, (h2 0).2 rfl, by simp⟩
    · exact .inl ⟨h1, rfl, rfl⟩
  refine ⟨⟨ok', ?_, ?_, ?_, ?_⟩, rfl, rfl, hl, ?_, ?_, ?_, ?_⟩
  · intro j p hj hk2 t h2 h3
    simp only [] at hj h3 ⊢
    rw [hget] at hj
    split at hj
    · rename_i e
      cases hj
      subst e
      rcases hP with ⟨h1, _⟩ | ⟨_, h4⟩
      · omega
      · exact ⟨more, by rw [hget, if_neg (by omega), if_pos (by omega)], rfl⟩
    · split at hj
      · cases hj; exact absurd hk2 (by decide)
      · obtain ⟨p', hp', hk'⟩ := hs.big j p hj hk2 t h2 h3
        exact ⟨p', out t p' hp' (by omega), hk'⟩
  · intro j p hj hk3
    simp only [] at hj ⊢
    rw [hget] at hj
    split at hj
    · cases hj
      rcases hP with ⟨h1, _⟩ | ⟨h1, _⟩ <;> omega
    · split at hj
      · rename_i h
        refine ⟨q, P, hq, ?_, h.1, ?_⟩
        · rcases hP with ⟨_, h1, _⟩ | ⟨h1, _⟩
          · omega
          · exact h1
        · rcases hP with ⟨_, h1, _⟩ | ⟨_, h1⟩ <;> omega
      · obtain ⟨t, p', ht, hk', h2, h3⟩ := hs.own j p hj hk3
        exact ⟨t, p', out t p' ht (by omega), hk', h2, h3⟩
  · intro j p hj hk1
    simp only [] at hj
    rw [hget] at hj
    split at hj
    · cases hj
      rcases hP with ⟨_, _, h1⟩ | ⟨h1, _⟩
      · exact ⟨0, (h1 0).2 rfl⟩
      · omega
    · split at hj
      · cases hj; exact absurd hk1 (by decide)
      · exact hs.cell j p hj hk1
  · intro j p hj h2 h3
    simp only [] at hj
    rw [hget] at hj
    split at hj
    · cases hj
      rcases hP with ⟨h1, _⟩ | ⟨h1, _⟩
      · exact absurd h1 h2
      · exact absurd h1 h3
    · split at hj
      · cases hj; rfl
      · exact hs.rest j p hj h2 h3
  · obtain ⟨p0, h1, h2⟩ := hf q (Nat.le_refl _) (by omega)
    exact ⟨q, 0, P, new, hx, p0, h1, .inl h2⟩
  · intro y j m p h
    have h0 : p.kind ≠ 0 := by rcases h.2 with ⟨h2, _⟩ | ⟨h2, _⟩ <;> omega
    have hu : Use (⟨s.f, s.w, l'⟩ : MS) y j m p := ⟨out j p h.1 h0, h.2⟩
    refine ⟨fun e => ?_, p, hu, rfl⟩
    subst e
    obtain ⟨rfl, _⟩ := use_one ok' hu new
    obtain ⟨p', h1, h2⟩ := hf j (Nat.le_refl _) (by omega)
    rw [h.1] at h1
    cases h1
    exact h0 h2
  · intro y j m p h
    have hj := h.1
    simp only [] at hj
    rw [hget] at hj
    split at hj
    · rename_i e
      cases hj
      subst e
      left
      rcases h.2 with ⟨_, _, hy⟩ | ⟨h1, hu, hy⟩
      · exact hy
      · rcases hP with ⟨_, _, h2⟩ | ⟨h2, _⟩
        · have := (h2 m).1 hu
          subst this
          simpa using hy
        · omega
    · split at hj
      · cases hj
        rcases h.2 with ⟨h1, _⟩ | ⟨h1, _⟩ <;> exact absurd h1 (by decide)
      · exact .inr ⟨p, hj, h.2⟩
  · intro j p hj h0 _
    exact out j p hj h0
theorem rnd_ge {x : Int} (h : x ≤ 1099511627776) : x ≤ rnd x := by
  unfold rnd
  exact CR.R_ge_x 38 4 x (by omega) (by omega)
theorem pgs_ge {w x : Int} (hw : 1 ≤ w) (hx : 1 ≤ x) : x ≤ pgs w x * w := by
  unfold pgs
  rw [if_neg (by omega)]
  have h1 := Int.mul_ediv_add_emod x w
  have h2 := Int.emod_nonneg x (by omega : w ≠ 0)
  have h3 := Int.emod_lt_of_pos x (by omega : 0 < w)
  rw [Int.add_mul]
  rw [Int.mul_comm] at h1
  split
  · omega
  · rcases (by omega : x % w = 0 ∨ x % w = 1) with e | e
    · rw [e] at h1 ⊢; omega
    · rw [e] at h1 ⊢; omega
theorem take_spec {s : MS} (hs : SI s) {x : Int} (hx : x ≤ 9223372036854775807) {a : Int} (h : s.took x = some a) : TakeOk s (s.take x) a x := by
  have ok' := take_ok hs.ok hx
  have n0 := hs.ok.2.1.1
  unfold MS.took takeR at h
  unfold MS.take takeR at ok' ⊢
  by_cases hx1 : x < 1
  · rw [if_pos hx1] at h; cases h
  · rw [if_neg hx1] at h ok' ⊢
    cases hb : big s.w x
    · rw [hb, if_neg (by simp)] at h ok' 
      rw [if_neg (by simp)]
      have h1 := rnd_b x
      have hle : rnd x ≤ s.w := by
        unfold big at hb
        have h1 : ¬ s.w / 2 < rnd x := by simpa using hb
        omega
      cases hf : fb (rnd x) s.l 0 with
      | some y =>
        obtain ⟨i, k⟩ := y
        obtain ⟨p, _, hp, h1, h2, h3, h4⟩ := fb_some hf
        rw [Nat.sub_zero] at hp
        rw [ibR_some hf hp] at h ok' ⊢
        simp only [Option.some.injEq] at h
        subst h
        have := mark_take hs hp h1 h3 (fz_false h4) (x := x) (fun h => by rw [h2]; exact rnd_ge h) ok'
        rw [h2] at this
        rw [h2]
        exact this
      | none =>
        cases hr : rowGo 1 s.l 0 0 with
        | none => rw [ibR_none hf hr] at h; cases h
        | some qi =>
          obtain ⟨q, rfl, hq1, hq2⟩ := row_free (Int.le_refl 1) hr
          rw [ibR_new hf hr, Int.toNat_natCast] at ok' ⊢
          rw [ibR_new hf hr] at h
          simp only [Option.some.injEq] at h
          subst h
          have hD : 1 ≤ s.w / rnd x := by
            have := Int.ediv_le_ediv (by omega : 0 < rnd x) hle
            rw [Int.ediv_self (by omega)] at this
            omega
          refine fresh_take hs (P := newB s.w (rnd x)) (c := 1) (by simp) (fun j => ?_) (Nat.le_refl 1) (fun j h1 h2 => hq2 j h1 (by omega)) (.inl ⟨rfl, rfl, fun k => ?_⟩) (fun h => ?_) ok'
          · rw [List.getElem?_set]
            by_cases e : q = j
            · subst e; rw [if_pos rfl, if_pos (by omega), if_pos rfl]
            · rw [if_neg e, if_neg (fun h => e h.symm), if_neg (by omega)]
          · simp only [newB, List.getElem?_set, List.length_replicate, List.getElem?_replicate]
            by_cases e : 0 = k
            · subst e; rw [if_pos rfl, if_pos (by omega)]; simp
            · rw [if_neg e]
              split
              · simp; omega
              · simp; omega
          · rw [show szP s.w (newB s.w (rnd x)) = rnd x from if_neg (by show ¬ (1 : Int) = 2; decide)]
            exact rnd_ge h
    · rw [hb, if_pos rfl] at h ok'
      rw [if_pos rfl]
      cases hr : rowGo (pgs s.w x) s.l 0 0 with
      | none => rw [hr] at h; cases h
      | some qi =>
        obtain ⟨c0, _⟩ := pgs_b n0 (by omega : 1 ≤ x)
        obtain ⟨q, rfl, hq1, hq2⟩ := row_free c0 hr
        rw [hr] at h ok'
        simp only [Option.some.injEq] at h
        subst h
        simp only [Int.toNat_natCast] at ok' ⊢
        have hqc : q + (pgs s.w x).toNat ≤ s.l.length := by omega
        refine fresh_take hs (P := ⟨2, x, [], false⟩) (c := (pgs s.w x).toNat) (by rw [List.length_set, fillM_len]) (fun j => ?_) (by omega) (fun j h1 h2 => hq2 j h1 (by omega)) (.inr ⟨rfl, rfl⟩) (fun _ => ?_) ok'
        · rw [List.getElem?_set, fillM_len, fillM_get hqc]
          by_cases e : q = j
          · subst e; rw [if_pos rfl, if_pos (by omega), if_pos rfl]
          · rw [if_neg e]
            by_cases e2 : q ≤ j ∧ j < q + (pgs s.w x).toNat
            · rw [if_pos e2, if_neg (fun h => e h.symm), if_pos (by omega)]
            · rw [if_neg e2, if_neg (fun h => e h.symm), if_neg (by omega)]
        · rw [show szP s.w (⟨2, x, [], false⟩ : Pg) = pgs s.w x * s.w from if_pos rfl]
          exact pgs_ge n0 (by omega)
theorem take_none {s : MS} {x : Int} (h : s.took x = none) : s.take x = s := by
  unfold MS.took takeR at h
  unfold MS.take takeR
  by_cases hx1 : x < 1
  · rw [if_pos hx1]
  · rw [if_neg hx1] at h ⊢
    cases hb : big s.w x
    · rw [hb, if_neg (by simp)] at h
      rw [if_neg (by simp)]
      cases hf : fb (rnd x) s.l 0 with
      | some y =>
        obtain ⟨i, k⟩ := y
        obtain ⟨p, _, hp, _⟩ := fb_some hf
        rw [Nat.sub_zero] at hp
        rw [ibR_some hf hp] at h; cases h
      | none =>
        cases hr : rowGo 1 s.l 0 0 with
        | none => rw [ibR_none hf hr]
        | some qi => rw [ibR_new hf hr] at h; cases h
    · rw [hb, if_pos rfl] at h
      rw [if_pos rfl]
      cases hr : rowGo (pgs s.w x) s.l 0 0 with
      | none => rfl
      | some qi => rw [hr] at h; cases h
end Go.Proofs.Ytjgjablmkljfoaa.Ma
