/- The reference's list of cells and the program's pages: Take. No condition. -/
import Derived.Test.YtjgjablmkljfoaaMrR
set_option linter.unusedVariables false
set_option linter.unusedSimpArgs false
namespace Go.Proofs.Ytjgjablmkljfoaa.Mr
open Go.RowKit Go.Proofs.Ytjgjablmkljfoaa.W Go.Proofs.Ytjgjablmkljfoaa.Cl Go.Proofs.Ytjgjablmkljfoaa.Ma
def FR (V : List Pg) (m c : Nat) : Prop := ∀ j, m ≤ j → j < m + c → ∃ p : Pg, V[j]? = some p ∧ p.kind = 0
theorem rowGo_first {c : Nat} {V : List Pg} (hc : 1 ≤ c) : ∀ (n i r : Nat), n = V.length - i → r ≤ i → r < c → match rowGo c (V.drop i) i r with
    | none => ∀ m, i - r ≤ m → m + c ≤ V.length → ¬ FR V m c
    | some q => ∀ m : Nat, i - r ≤ m → (m : Int) < q → ¬ FR V m c := by
  intro n
  induction n with
  | zero =>
    intro i r hn hr hrc
    rw [List.drop_of_length_le (by omega)]
    intro m h1 h2 h3
    omega
  | succ n ih =>
    intro i r hn hr hrc
    have hi : i < V.length := by omega
    rw [List.drop_eq_getElem_cons hi]
    have hg : V[i]? = some V[i] := List.getElem?_eq_getElem hi
    have e : ((i : Int) + 1) = ((i + 1 : Nat) : Int) := by omega
    have e2 : ((r : Int) + 1) = ((r + 1 : Nat) : Int) := by omega
    simp only [rowGo]
    by_cases hk : V[i].kind ≠ 0
    · rw [if_pos hk]
      have h0 := ih (i + 1) 0 (by omega) (by omega) (by omega)
      have hbad : ∀ m, i - r ≤ m → m ≤ i → ¬ FR V m c := fun m h1 h2 h3 => by
        obtain ⟨p, hp, hp0⟩ := h3 i h2 (by omega)
        rw [hg] at hp
        cases hp
        exact hk hp0
      rw [e]
      rw [show ((0 : Nat) : Int) = 0 from rfl] at h0
      cases hres : rowGo c (V.drop (i + 1)) ((i + 1 : Nat) : Int) 0 with
      | none =>
        rw [hres] at h0
        simp only [] at h0 ⊢
        intro m h1 h2
        by_cases hm : m ≤ i
        · exact hbad m h1 hm
        · exact h0 m (by omega) h2
      | some q =>
        rw [hres] at h0
        simp only [] at h0 ⊢
        intro m h1 h2
        by_cases hm : m ≤ i
        · exact hbad m h1 hm
        · exact h0 m (by omega) h2
    · rw [if_neg hk]
      by_cases hrc2 : (r : Int) + 1 = c
      · rw [if_pos hrc2]
        intro m h1 h2
        omega
      · rw [if_neg hrc2]
        have h0 := ih (i + 1) (r + 1) (by omega) (by omega) (by omega)
        rw [e, e2]
        cases hres : rowGo c (V.drop (i + 1)) ((i + 1 : Nat) : Int) ((r + 1 : Nat) : Int) with
        | none =>
          rw [hres] at h0
          simp only [] at h0 ⊢
          intro m h1 h2
          exact h0 m (by omega) h2
        | some q =>
          rw [hres] at h0
          simp only [] at h0 ⊢
          intro m h1 h2
          exact h0 m (by omega) h2
theorem row_none {c : Nat} {V : List Pg} (hc : 1 ≤ c) (h : rowGo c V 0 0 = none) (m : Nat) (hm : m + c ≤ V.length) : ¬ FR V m c := by
  have := rowGo_first (V := V) hc V.length 0 0 (by omega) (Nat.le_refl _) (by omega)
  rw [List.drop_zero] at this
  rw [show ((0 : Nat) : Int) = 0 from rfl, h] at this
  exact this m (by omega) hm
theorem row_some {c : Nat} {V : List Pg} (hc : 1 ≤ c) {q : Int} (h : rowGo c V 0 0 = some q) : ∃ n : Nat, q = n ∧ n + c ≤ V.length ∧ FR V n c ∧ ∀ m, m < n → ¬ FR V m c := by
  obtain ⟨n, rfl, h1, h2⟩ := row_free (by omega : (1 : Int) ≤ c) h
  have := rowGo_first (V := V) hc V.length 0 0 (by omega) (Nat.le_refl _) (by omega)
  rw [List.drop_zero] at this
  rw [show ((0 : Nat) : Int) = 0 from rfl, h] at this
  exact ⟨n, rfl, by omega, fun j h3 h4 => h2 j h3 (by omega), fun m hm => this m (by omega) (by omega)⟩
theorem Rel.allF {s : MS} {r : RS} (h : Rel s r) {n c : Nat} (hc : n + c ≤ r.p) : Mr.allF r n c = true ↔ FR s.l n c := by
  rw [h.p] at hc
  unfold Mr.allF
  rw [List.all_eq_true]
  constructor
  · intro ha j h1 h2
    have hj : s.l[j]? = some s.l[j] := List.getElem?_eq_getElem (by omega)
    refine ⟨_, hj, ?_⟩
    have := ha (j - n) (List.mem_range.2 (by omega))
    rw [show (n : Int) + ((j - n : Nat) : Int) = ((j : Nat) : Int) by omega, h.free hj] at this
    simpa using this
  · intro ha k hk
    rw [List.mem_range] at hk
    obtain ⟨p, hp, h0⟩ := ha (n + k) (by omega) (by omega)
    rw [show (n : Int) + (k : Int) = ((n + k : Nat) : Int) by omega, h.free hp, h0]
    rfl
theorem Rel.rrow {s : MS} {r : RS} (h : Rel s r) {c : Nat} : ∀ (d n : Nat), r.p + 1 ≤ n + d → (Mr.rrow r c d n = none ∧ ∀ m, n ≤ m → m + c ≤ r.p → ¬ FR s.l m c) ∨ ∃ q, Mr.rrow r c d n = some q ∧ n ≤ q ∧ q + c ≤ r.p ∧ FR s.l q c ∧ ∀ m, n ≤ m → m < q → ¬ FR s.l m c := by
  intro d
  induction d with
  | zero => intro n hd; exact .inl ⟨rfl, fun m h1 h2 => by omega⟩
  | succ d ih =>
    intro n hd
    unfold Mr.rrow
    by_cases hc : n + c ≤ r.p
    · rw [if_pos hc]
      by_cases ha : FR s.l n c
      · rw [if_pos ((h.allF hc).2 ha)]
        exact .inr ⟨n, rfl, Nat.le_refl _, hc, ha, fun m h1 h2 => by omega⟩
      · rw [if_neg (fun h2 => ha ((h.allF hc).1 h2))]
        rcases ih (n + 1) (by omega) with ⟨h1, h2⟩ | ⟨q, h1, h2, h3, h4, h5⟩
        · refine .inl ⟨h1, fun m hm hmc => ?_⟩
          by_cases e : m = n
          · subst e; exact ha
          · exact h2 m (by omega) hmc
        · refine .inr ⟨q, h1, by omega, h3, h4, fun m hm hmq => ?_⟩
          by_cases e : m = n
          · subst e; exact ha
          · exact h5 m (by omega) hmq
    · rw [if_neg hc]
      exact .inl ⟨rfl, fun m h1 h2 => by omega⟩
theorem Rel.row {s : MS} {r : RS} (h : Rel s r) {c : Nat} (hc : 1 ≤ c) : Mr.rrow r c (r.p + 1) 0 = (rowGo c s.l 0 0).map Int.toNat := by
  rcases h.rrow (c := c) (r.p + 1) 0 (by omega) with ⟨h1, h2⟩ | ⟨q, h1, _, h3, h4, h5⟩
  · rw [h1]
    cases hr : rowGo c s.l 0 0 with
    | none => rfl
    | some q =>
      obtain ⟨n, _, h3, h4, _⟩ := row_some hc hr
      exact absurd h4 (h2 n (by omega) (by rw [h.p]; exact h3))
  · rw [h1]
    cases hr : rowGo c s.l 0 0 with
    | none => exact absurd h4 (row_none hc hr q (by rw [← h.p]; exact h3))
    | some q' =>
      obtain ⟨n, rfl, h6, h7, h8⟩ := row_some hc hr
      have : n = q := by
        rcases Nat.lt_trichotomy n q with e | e | e
        · exact absurd h7 (h5 n (by omega) e)
        · exact e
        · exact absurd h4 (h8 q e)
      subst this
      rfl
theorem Rel.first {s : MS} {r : RS} (h : Rel s r) : ∀ (d n : Nat), n + d = r.p → Mr.rfirst r d n = Mr.rrow r 1 (d + 1) n := by
  intro d
  induction d with
  | zero =>
    intro n hn
    unfold Mr.rfirst Mr.rrow
    rw [if_neg (by omega)]
  | succ d ih =>
    intro n hn
    have : Mr.allF r n 1 = freeB r n := by
      unfold Mr.allF
      rw [show List.range 1 = [0] from rfl]
      simp
    show (if freeB r n = true then some n else Mr.rfirst r d (n + 1)) = (if n + 1 ≤ r.p then (if Mr.allF r n 1 = true then some n else Mr.rrow r 1 (d + 1) (n + 1)) else none)
    rw [if_pos (show n + 1 ≤ r.p by omega), this, ih (n + 1) (by omega)]
/-- New cells on pages that were free. -/
theorem Rel.fresh {s : MS} {r : RS} (h : Rel s r) {l' : List Pg} {q c : Nat} {P : Pg} {N : List Ce} (hl : l'.length = s.l.length) (hget : ∀ j : Nat, l'[j]? = if j = q then some P else if q < j ∧ j < q + c then some more else s.l[j]?) (hc : 1 ≤ c) (hf : FR s.l q c) (hP : P.pend = false) (hs : SI ⟨s.f, s.w, l'⟩)
    (hN : ∀ x, x ∈ N ↔ ((P.kind = 2 ∧ x = ⟨s.f + q * s.w, pgs s.w P.size * s.w, true, true⟩) ∨ (P.kind = 1 ∧ ∃ (k : Nat) (u : Bool), P.used[k]? = some u ∧ x = ⟨s.f + q * s.w + k * P.size, P.size, u, false⟩))) (hNn : (N.map (·.a)).Nodup) :
    Rel ⟨s.f, s.w, l'⟩ { r with cs := r.cs ++ N } := by
  have hq : l'[q]? = some P := by rw [hget, if_pos rfl]
  have hNca : ∀ x, x ∈ N ↔ CA ⟨s.f, s.w, l'⟩ q P x := fun x => by
    rw [hN]
    exact ⟨fun h => ⟨hq, h⟩, fun h => h.2⟩
  have hout : ∀ (j : Nat) (p : Pg) (x : Ce), CA s j p x → ¬ (q ≤ j ∧ j < q + c) := fun j p x hx hr => by
    obtain ⟨p', h1, h2⟩ := hf j hr.1 hr.2
    have := hx.1.symm.trans h1
    cases this
    rcases hx.2 with ⟨e, _⟩ | ⟨e, _⟩ <;> omega
  have hold : ∀ (j : Nat) (p : Pg) (x : Ce), CA s j p x → CA ⟨s.f, s.w, l'⟩ j p x := fun j p x hx => by
    have := hout j p x hx
    exact ⟨by show l'[j]? = _; rw [hget, if_neg (by omega), if_neg (by omega)]; exact hx.1, hx.2⟩
  refine ⟨hs, h.f, h.w, by rw [show ({ r with cs := r.cs ++ N } : RS).p = r.p from rfl, h.p]; exact hl.symm, ?_, ?_, fun x => ?_⟩
  · show r.pd = l'.map (·.pend)
    rw [h.pd]
    apply List.ext_getElem?
    intro j
    rw [List.getElem?_map, List.getElem?_map, hget]
    have hfree : q ≤ j → j < q + c → s.l[j]?.map (·.pend) = some false := fun h1 h2 => by
      obtain ⟨p', h3, h4⟩ := hf j h1 h2
      rw [h3, Option.map_some, h.si.rest j p' h3 (by omega) (by omega)]
    split
    · rename_i e
      rw [hfree (by omega) (by omega)]
      simp [hP]
    · split
      · rename_i e
        rw [hfree (by omega) (by omega)]
        rfl
      · rfl
  · show ((r.cs ++ N).map (·.a)).Nodup
    rw [List.map_append, List.nodup_append]
    refine ⟨h.nd, hNn, fun a ha b hb e => ?_⟩
    obtain ⟨x, hx, rfl⟩ := List.mem_map.1 ha
    obtain ⟨y, hy, rfl⟩ := List.mem_map.1 hb
    obtain ⟨j, p, hj⟩ := (h.mem x).1 hx
    have := (ca_inj hs.ok (hold j p x hj) ((hNca y).1 hy) e).1
    have := hout j p x hj
    omega
  · show x ∈ r.cs ++ N ↔ _
    rw [List.mem_append, h.mem, hNca]
    constructor
    · rintro (⟨j, p, hj⟩ | hx)
      · exact ⟨j, p, hold j p x hj⟩
      · exact ⟨q, P, hx⟩
    · rintro ⟨j, p, hj, hx⟩
      have hj' : l'[j]? = some p := hj
      rw [hget] at hj'
      split at hj'
      · rename_i e
        subst e
        cases hj'
        exact .inr ⟨hj, hx⟩
      · split at hj'
        · cases hj'
          rcases hx with ⟨e, _⟩ | ⟨e, _⟩ <;> exact absurd e (by decide)
        · exact .inl ⟨j, p, hj', hx⟩
/-- Take of what is large. -/
theorem Rel.take_big {s : MS} {r : RS} (h : Rel s r) {x : Int} (hx : 1 ≤ x) (hx9 : x ≤ 9223372036854775807) (hb : big s.w x = true) {C : Nat} (hC : pgs s.w x = C) :
    (Mr.rrow r C (r.p + 1) 0 = none → s.took x = none ∧ s.take x = s) ∧ (∀ n, Mr.rrow r C (r.p + 1) 0 = some n → s.took x = some (r.f + n * r.w) ∧ Rel (s.take x) { r with cs := r.cs ++ [lcell r n C] }) := by
  have hC1 := (pgs_b h.si.ok.2.1.1 hx).1
  have hrow := h.row (c := C) (by omega)
  have ht : s.took x = match rowGo C s.l 0 0 with | none => none | some q => some (s.f + q * s.w) := by
    unfold MS.took takeR
    rw [if_neg (by omega), if_pos hb, hC]
    cases rowGo C s.l 0 0 <;> rfl
  rw [hrow]
  refine ⟨fun hn => ?_, fun n hn => ?_⟩
  · have hr : rowGo C s.l 0 0 = none := by
      cases e : rowGo C s.l 0 0 with
      | none => rfl
      | some q => rw [e] at hn; cases hn
    rw [hr] at ht
    exact ⟨ht, take_none ht⟩
  · cases e : rowGo C s.l 0 0 with
    | none => rw [e] at hn; cases hn
    | some q =>
      rw [e] at hn ht
      obtain ⟨m, rfl, h1, h2, h3⟩ := row_some (by omega) e
      simp only [Option.map_some, Int.toNat_natCast, Option.some.injEq] at hn
      subst hn
      have ts := take_spec h.si hx9 ht
      have hE : s.take x = ⟨s.f, s.w, (fillM m C s.l).set m ⟨2, x, [], false⟩⟩ := by
        unfold MS.take takeR
        rw [if_neg (by omega), if_pos hb, hC, e]
        simp
      refine ⟨by rw [h.f, h.w]; exact ht, ?_⟩
      rw [hE]
      have hsi := ts.si
      rw [hE] at hsi
      refine h.fresh (q := m) (c := C) (P := ⟨2, x, [], false⟩) (by rw [List.length_set, fillM_len]) (fun j => ?_) (by omega) h2 rfl hsi (fun y => ?_) (by simp)
      · rw [List.getElem?_set, fillM_len, fillM_get h1]
        by_cases hj : m = j
        · subst hj; rw [if_pos rfl, if_pos (by omega), if_pos rfl]
        · rw [if_neg hj, if_neg (show ¬ j = m from fun e => hj e.symm)]
          by_cases hr : m < j ∧ j < m + C
          · rw [if_pos hr, if_pos (show m ≤ j ∧ j < m + C by omega)]
          · rw [if_neg hr, if_neg (show ¬ (m ≤ j ∧ j < m + C) by omega)]
      · rw [List.mem_singleton]
        unfold lcell
        rw [h.f, h.w]
        constructor
        · rintro rfl
          exact .inl ⟨rfl, by show _ = (⟨_, pgs s.w x * s.w, true, true⟩ : Ce); rw [hC]⟩
        · rintro (⟨_, e⟩ | ⟨e, _⟩)
          · rw [e]; show (⟨_, pgs s.w x * s.w, true, true⟩ : Ce) = _; rw [hC]
          · exact absurd e (by show ¬ (2 : Int) = 1; decide)
theorem fz_first {u : List Bool} {k : Nat} (h : fz u = some k) : ∀ j, j < k → u[j]? = some true := by
  induction u generalizing k with
  | nil => cases h
  | cons x r ih =>
    cases x with
    | false => simp [fz] at h; subst h; intro j hj; omega
    | true =>
      simp only [fz, Option.map_eq_some_iff] at h
      obtain ⟨a, ha, rfl⟩ := h
      intro j hj
      cases j with
      | zero => rfl
      | succ j => simpa using ih ha j (by omega)
theorem fz_none {u : List Bool} (h : fz u = none) : ∀ j : Nat, u[j]? ≠ some false := by
  induction u with
  | nil => intro j; simp
  | cons x r ih =>
    cases x with
    | false => simp [fz] at h
    | true =>
      simp only [fz, Option.map_eq_none_iff] at h
      intro j
      cases j with
      | zero => simp
      | succ j => simpa using ih h j
/-- A page of cells of a size, of which one is free, and that is not pending. -/
def FP (z : Int) (p : Pg) : Prop := p.kind = 1 ∧ p.size = z ∧ p.pend = false ∧ ∃ k : Nat, p.used[k]? = some false
theorem fb_first {z : Int} {l : List Pg} {j : Nat} : (fb z l j = none → ∀ (i : Nat) (p : Pg), l[i]? = some p → ¬ FP z p) ∧ (∀ i k, fb z l j = some (i, k) → ∀ (m : Nat) (p : Pg), j + m < i → l[m]? = some p → ¬ FP z p) := by
  induction l generalizing j with
  | nil => exact ⟨fun _ i p h => (by simp at h), fun i k h => (by cases h)⟩
  | cons q r ih =>
    obtain ⟨ih1, ih2⟩ := ih (j := j + 1)
    have hdef : fb z (q :: r) j = if q.kind = 1 ∧ q.size = z ∧ q.pend = false then (match fz q.used with | some k => some (j, k) | none => fb z r (j + 1)) else fb z r (j + 1) := rfl
    have miss : (¬ FP z q) → fb z (q :: r) j = fb z r (j + 1) := fun hq => by
      rw [hdef]
      split
      · rename_i hc
        split
        · rename_i k hk
          exact absurd ⟨hc.1, hc.2.1, hc.2.2, k, fz_false hk⟩ hq
        · rfl
      · rfl
    have hit : FP z q → ∃ k, fb z (q :: r) j = some (j, k) := fun ⟨h1, h2, h3, k, hk⟩ => by
      rw [hdef, if_pos ⟨h1, h2, h3⟩]
      cases hz : fz q.used with
      | none => exact absurd hk (fz_none hz k)
      | some k' => exact ⟨k', rfl⟩
    by_cases hq : FP z q
    · obtain ⟨k, hk⟩ := hit hq
      rw [hk]
      refine ⟨fun h => (by cases h), fun i k' h => ?_⟩
      cases h
      intro m p hm
      omega
    · rw [miss hq]
      refine ⟨fun h i p hp => ?_, fun i k h m p hm hp => ?_⟩
      · cases i with
        | zero => simp at hp; subst hp; exact hq
        | succ i => exact ih1 h i p (by simpa using hp)
      · cases m with
        | zero => simp at hp; subst hp; exact hq
        | succ m => exact ih2 i k h m p (by omega) (by simpa using hp)
/-- What the reference finds: the first one of those that may be taken. -/
theorem bst_spec {r : RS} {z : Int} : ∀ (d i : Nat) (bt : Option Nat), d = r.cs.length - i → i ≤ r.cs.length → ((bt = none ∧ ∀ c ∈ r.cs.take i, candB r z c = false) ∨ ∃ j c, bt = some j ∧ r.cs[j]? = some c ∧ candB r z c = true ∧ ∀ x ∈ r.cs.take i, candB r z x = true → c.a ≤ x.a) →
    (bst r z (r.cs.drop i) i bt = none ∧ ∀ c ∈ r.cs, candB r z c = false) ∨ ∃ j c, bst r z (r.cs.drop i) i bt = some j ∧ r.cs[j]? = some c ∧ candB r z c = true ∧ ∀ x ∈ r.cs, candB r z x = true → c.a ≤ x.a := by
  intro d
  induction d with
  | zero =>
    intro i bt hd hi h
    rw [List.drop_of_length_le (by omega)]
    rw [List.take_of_length_le (by omega)] at h
    exact h
  | succ d ih =>
    intro i bt hd hi h
    have hlt : i < r.cs.length := by omega
    have hg : r.cs[i]? = some r.cs[i] := List.getElem?_eq_getElem hlt
    obtain ⟨c, hc⟩ : ∃ c, r.cs[i] = c := ⟨_, rfl⟩
    rw [hc] at hg
    rw [List.drop_eq_getElem_cons hlt, hc]
    unfold bst
    have htk : ∀ x, x ∈ r.cs.take (i + 1) ↔ x ∈ r.cs.take i ∨ x = c := fun x => by
      rw [List.take_add_one, hg, List.mem_append]; simp
    refine ih (i + 1) _ (by omega) (by omega) ?_
    cases hcd : candB r z c
    · simp only [Bool.false_and, Bool.false_eq_true, if_false]
      rcases h with ⟨h1, h2⟩ | ⟨j, y, h1, h2, h3, h4⟩
      · refine .inl ⟨h1, fun x hx => ?_⟩
        rcases (htk x).1 hx with hx | rfl
        · exact h2 x hx
        · exact hcd
      · refine .inr ⟨j, y, h1, h2, h3, fun x hx hxc => ?_⟩
        rcases (htk x).1 hx with hx | rfl
        · exact h4 x hx hxc
        · rw [hcd] at hxc; cases hxc
    · rcases h with ⟨h1, h2⟩ | ⟨j, y, h1, h2, h3, h4⟩
      · subst h1
        have e : lessB r c none = true := rfl
        rw [e]
        simp only [Bool.and_self, if_true]
        refine .inr ⟨i, c, rfl, hg, hcd, fun x hx hxc => ?_⟩
        rcases (htk x).1 hx with hx | rfl
        · rw [h2 x hx] at hxc; cases hxc
        · exact Int.le_refl _
      · subst h1
        have e : lessB r c (some j) = decide (c.a < y.a) := by simp [lessB, h2]
        rw [e]
        by_cases hlt2 : c.a < y.a
        · rw [decide_eq_true hlt2]
          simp only [Bool.and_self, if_true]
          refine .inr ⟨i, c, rfl, hg, hcd, fun x hx hxc => ?_⟩
          rcases (htk x).1 hx with hx | rfl
          · have := h4 x hx hxc; omega
          · exact Int.le_refl _
        · rw [decide_eq_false hlt2]
          simp only [Bool.and_false, Bool.false_eq_true, if_false]
          refine .inr ⟨j, y, rfl, h2, h3, fun x hx hxc => ?_⟩
          rcases (htk x).1 hx with hx | rfl
          · exact h4 x hx hxc
          · omega
theorem Rel.cand {s : MS} {r : RS} (h : Rel s r) {z : Int} {i : Nat} {p : Pg} {c : Ce} (hc : CA s i p c) : candB r z c = true ↔ (p.kind = 1 ∧ p.size = z ∧ p.pend = false ∧ ∃ k : Nat, p.used[k]? = some false ∧ c = ⟨s.f + i * s.w + k * p.size, p.size, false, false⟩) := by
  have hpd : pdB r c = p.pend := by
    unfold pdB
    rw [h.ofI hc, Int.toNat_natCast, h.pd, List.getElem?_map, hc.1]
    rfl
  unfold candB
  rw [hpd]
  rcases hc.2 with ⟨h2, rfl⟩ | ⟨h1, k, u, hk, rfl⟩
  · simp only [Bool.not_true, Bool.false_and, Bool.false_eq_true, false_iff]
    rintro ⟨e, _⟩
    omega
  · constructor
    · intro hh
      simp only [Bool.and_eq_true, Bool.not_eq_true', beq_iff_eq] at hh
      obtain ⟨a1, _, a3, a4⟩ := hh
      subst a1
      exact ⟨h1, a3, a4, k, hk, rfl⟩
    · rintro ⟨_, a2, a3, k', hk', e⟩
      simp only [Ce.mk.injEq] at e
      simp [e.2.2.1, a2, a3]
/-- A page's cell is taken. -/
theorem Rel.take_cell {s : MS} {r : RS} (h : Rel s r) {x z : Int} (hx : 1 ≤ x) (hx9 : x ≤ 9223372036854775807) (hb : big s.w x = false) (hz : rnd x = z) :
    (bst r z r.cs 0 none = none → fb z s.l 0 = none) ∧ (∀ j c, bst r z r.cs 0 none = some j → r.cs[j]? = some c → s.took x = some c.a ∧ Rel (s.take x) { r with cs := r.cs.set j (useC c) }) := by
  have hbs := bst_spec (r := r) (z := z) r.cs.length 0 none (by omega) (by omega) (.inl ⟨rfl, by simp⟩)
  rw [List.drop_zero] at hbs
  cases hfb : fb z s.l 0 with
  | none =>
    refine ⟨fun _ => rfl, fun j c hj hc => ?_⟩
    rcases hbs with ⟨h1, _⟩ | ⟨j', c', h1, h2, h3, _⟩
    · rw [h1] at hj; cases hj
    · obtain ⟨i, p, hca⟩ := (h.mem c').1 (List.mem_of_getElem? h2)
      obtain ⟨a1, a2, a3, k, a4, _⟩ := (h.cand hca).1 h3
      exact absurd ⟨a1, a2, a3, k, a4⟩ (fb_first.1 hfb i p hca.1)
  | some y =>
    obtain ⟨i, k⟩ := y
    obtain ⟨p, _, hp, b1, b2, b3, b4⟩ := fb_some hfb
    rw [Nat.sub_zero] at hp
    have hk := fz_false b4
    have hc0 : CA s i p ⟨s.f + i * s.w + k * p.size, p.size, false, false⟩ := ⟨hp, .inr ⟨b1, k, false, hk, rfl⟩⟩
    have hcand0 : candB r z ⟨s.f + i * s.w + k * p.size, p.size, false, false⟩ = true := (h.cand hc0).2 ⟨b1, b2, b3, k, hk, rfl⟩
    have hm0 := (h.mem _).2 ⟨i, p, hc0⟩
    have hsz := (ca_geo h.si.ok hc0).2.2.1
    have hw0 := h.si.ok.2.1.1
    refine ⟨fun hn => ?_, fun j c hj hc => ?_⟩
    · rcases hbs with ⟨_, h2⟩ | ⟨j', c', h1, _⟩
      · rw [h2 _ hm0] at hcand0; cases hcand0
      · rw [h1] at hn; cases hn
    · rcases hbs with ⟨h1, _⟩ | ⟨j', c', h1, h2, h3, h4⟩
      · rw [h1] at hj; cases hj
      · rw [hj] at h1
        cases h1
        rw [hc] at h2
        cases h2
        have hle := h4 _ hm0 hcand0
        obtain ⟨i', p', hca⟩ := (h.mem c).1 (List.mem_of_getElem? hc)
        obtain ⟨a1, a2, a3, k', a4, a5⟩ := (h.cand hca).1 h3
        have hii : i ≤ i' := by
          apply Classical.byContradiction
          intro hn
          exact fb_first.2 i k hfb i' p' (by omega) hca.1 ⟨a1, a2, a3, k', a4⟩
        have hceq : c = ⟨s.f + i * s.w + k * p.size, p.size, false, false⟩ := by
          refine (ca_inj h.si.ok hca hc0 ?_).2.2
          have g1 := ca_geo h.si.ok hca
          have g2 := ca_geo h.si.ok hc0
          simp only [] at g2 hle
          by_cases e : i = i'
          · subst e
            have := hca.1.symm.trans hp
            cases this
            have hkk : k ≤ k' := by
              apply Classical.byContradiction
              intro hn
              have := fz_first b4 k' (by omega)
              rw [this] at a4
              cases a4
            have := Int.mul_le_mul_of_nonneg_right (by omega : (k : Int) ≤ k') (by omega : 0 ≤ p.size)
            rw [a5] at hle ⊢
            simp only [] at hle ⊢
            omega
          · have := page_le hw0 (by omega : (i : Int) + 1 ≤ i')
            rw [Int.add_mul, Int.one_mul] at this
            omega
        have ht : s.took x = some (s.f + i * s.w + k * z) := by
          unfold MS.took takeR
          rw [if_neg (by omega), hb, if_neg (by simp), hz, ibR_some hfb hp]
        have hE : s.take x = ⟨s.f, s.w, s.l.set i ⟨p.kind, p.size, p.used.set k true, p.pend⟩⟩ := by
          unfold MS.take takeR
          rw [if_neg (by omega), hb, if_neg (by simp), hz, ibR_some hfb hp]
        have ts := take_spec h.si hx9 ht
        rw [hE] at ts
        refine ⟨by rw [ht, hceq]; simp only []; rw [b2], ?_⟩
        rw [hE]
        have hil := (List.getElem?_eq_some_iff.1 hp).1
        have hkl := (List.getElem?_eq_some_iff.1 hk).1
        have get : ∀ j : Nat, (s.l.set i ⟨p.kind, p.size, p.used.set k true, p.pend⟩)[j]? = if i = j then some ⟨p.kind, p.size, p.used.set k true, p.pend⟩ else s.l[j]? := fun j => by
          rw [List.getElem?_set]
          by_cases e : i = j
          · subst e; simp [hil]
          · simp [e]
        have ugt : ∀ j : Nat, (p.used.set k true)[j]? = if k = j then some true else p.used[j]? := fun j => by
          rw [List.getElem?_set]
          by_cases e : k = j
          · subst e; simp [hkl]
          · simp [e]
        have hput := fun y => mem_put (x := y) (d := useC c) h.nd hc rfl
        refine ⟨ts.si, h.f, h.w, by rw [show ({ r with cs := r.cs.set j (useC c) } : RS).p = r.p from rfl, h.p]; simp, ?_, ?_, fun y => ?_⟩
        · show r.pd = _
          rw [h.pd]
          apply List.ext_getElem?
          intro j
          rw [List.getElem?_map, List.getElem?_map]
          simp only []
          rw [get]
          split
          · rename_i e; subst e; rw [hp]; rfl
          · rfl
        · show ((r.cs.set j (useC c)).map (·.a)).Nodup
          rw [(hput c).2]
          exact h.nd
        · show y ∈ r.cs.set j (useC c) ↔ _
          rw [(hput y).1]
          constructor
          · rintro (rfl | ⟨h5, h6⟩)
            · refine ⟨i, ⟨p.kind, p.size, p.used.set k true, p.pend⟩, by simp only []; rw [get, if_pos rfl], .inr ⟨b1, k, true, ?_, by rw [hceq]; rfl⟩⟩
              show (p.used.set k true)[k]? = _
              rw [ugt, if_pos rfl]
            · obtain ⟨m, q, hq⟩ := (h.mem y).1 h5
              by_cases e : i = m
              · subst e
                have := hq.1.symm.trans hp
                cases this
                rcases hq.2 with ⟨e, _⟩ | ⟨_, n, v, hv, e⟩
                · omega
                · have hkn : k ≠ n := fun e2 => by
                    subst e2
                    rw [hk] at hv
                    cases hv
                    exact h6 (e.trans hceq.symm)
                  refine ⟨i, ⟨p.kind, p.size, p.used.set k true, p.pend⟩, by simp only []; rw [get, if_pos rfl], .inr ⟨b1, n, v, ?_, e⟩⟩
                  show (p.used.set k true)[n]? = _
                  rw [ugt, if_neg hkn]; exact hv
              · exact ⟨m, q, by simp only []; rw [get, if_neg e]; exact hq.1, hq.2⟩
          · rintro ⟨m, q, hq, hqc⟩
            simp only [] at hq
            rw [get] at hq
            split at hq
            · rename_i e
              subst e
              cases hq
              rcases hqc with ⟨e, _⟩ | ⟨_, n, v, hv, e⟩
              · exact absurd (b1.symm.trans e) (by decide)
              · have hv' : (p.used.set k true)[n]? = some v := hv
                rw [ugt] at hv'
                split at hv'
                · rename_i e2
                  subst e2
                  cases hv'
                  left
                  rw [e, hceq]; rfl
                · rename_i e2
                  have hcn : CA s i p ⟨s.f + i * s.w + n * p.size, p.size, v, false⟩ := ⟨hp, .inr ⟨b1, n, v, hv', rfl⟩⟩
                  refine .inr ⟨?_, fun e3 => ?_⟩
                  · rw [e]; exact (h.mem _).2 ⟨i, p, hcn⟩
                  · rw [e, hceq] at e3
                    simp only [Ce.mk.injEq] at e3
                    simp only [] at hsz
                    have := Int.eq_of_mul_eq_mul_right (by omega : p.size ≠ 0) (by omega : (n : Int) * p.size = k * p.size)
                    omega
            · rename_i e
              have hq' : CA s m q y := ⟨hq, hqc⟩
              refine .inr ⟨(h.mem y).2 ⟨m, q, hq'⟩, fun e2 => ?_⟩
              subst e2
              exact e (ca_inj h.si.ok (hceq ▸ hc0) hq' rfl).1
/-- A new page of cells. -/
theorem Rel.take_page {s : MS} {r : RS} (h : Rel s r) {x z : Int} (hx : 1 ≤ x) (hx9 : x ≤ 9223372036854775807) (hb : big s.w x = false) (hz : rnd x = z) (hfb : fb z s.l 0 = none) :
    (Mr.rfirst r r.p 0 = none → s.took x = none ∧ s.take x = s) ∧ (∀ n, Mr.rfirst r r.p 0 = some n → s.took x = some (r.f + n * r.w) ∧ Rel (s.take x) { r with cs := r.cs ++ pgc r n z (r.w / z).toNat }) := by
  have hrow := h.row (c := 1) (Nat.le_refl 1)
  have hff := h.first r.p 0 (by omega)
  rw [hff, hrow]
  have hzb := rnd_b x
  rw [hz] at hzb
  have hw0 := h.si.ok.2.1.1
  have ht : s.took x = match rowGo 1 s.l 0 0 with | none => none | some q => some (s.f + q * s.w) := by
    unfold MS.took takeR
    rw [if_neg (by omega), hb, if_neg (by simp), hz]
    cases hr : rowGo 1 s.l 0 0 with
    | none => rw [ibR_none hfb hr]
    | some q => rw [ibR_new hfb hr]
  have e1 : ((1 : Nat) : Int) = 1 := rfl
  rw [e1]
  refine ⟨fun hn => ?_, fun n hn => ?_⟩
  · have hr : rowGo 1 s.l 0 0 = none := by
      cases e : rowGo 1 s.l 0 0 with
      | none => rfl
      | some q => rw [e] at hn; cases hn
    rw [hr] at ht
    exact ⟨ht, take_none ht⟩
  · cases e : rowGo 1 s.l 0 0 with
    | none => rw [e] at hn; cases hn
    | some q =>
      rw [e] at hn ht
      obtain ⟨m, rfl, h1, h2, h3⟩ := row_some (Nat.le_refl 1) (by rw [e1]; exact e)
      simp only [Option.map_some, Int.toNat_natCast, Option.some.injEq] at hn
      subst hn
      have ts := take_spec h.si hx9 ht
      have hE : s.take x = ⟨s.f, s.w, s.l.set m (newB s.w z)⟩ := by
        unfold MS.take takeR
        rw [if_neg (by omega), hb, if_neg (by simp), hz, ibR_new hfb e, Int.toNat_natCast]
      refine ⟨by rw [h.f, h.w]; exact ht, ?_⟩
      rw [hE]
      have hsi := ts.si
      rw [hE] at hsi
      refine h.fresh (q := m) (c := 1) (P := newB s.w z) (by simp) (fun j => ?_) (Nat.le_refl 1) h2 rfl hsi (fun y => ?_) ?_
      · rw [List.getElem?_set]
        by_cases hj : m = j
        · subst hj; rw [if_pos rfl, if_pos (by omega), if_pos rfl]
        · rw [if_neg hj, if_neg (show ¬ j = m from fun e => hj e.symm), if_neg (by omega)]
      · unfold pgc
        rw [List.mem_map, h.w]
        constructor
        · rintro ⟨k, hk, rfl⟩
          rw [List.mem_range] at hk
          refine .inr ⟨rfl, k, k == 0, ?_, by unfold pcell; rw [h.f, h.w]; rfl⟩
          simp only [newB, List.getElem?_set, List.length_replicate, List.getElem?_replicate]
          by_cases e : 0 = k
          · subst e; rw [if_pos rfl, if_pos hk]; rfl
          · rw [if_neg e, if_pos hk]
            have : (k == 0) = false := by simp; omega
            rw [this]
        · rintro (⟨e, _⟩ | ⟨_, k, u, hu, e⟩)
          · exact absurd e (by show ¬ (1 : Int) = 2; decide)
          · simp only [newB, List.getElem?_set, List.length_replicate, List.getElem?_replicate] at hu
            have hkl : k < (s.w / z).toNat := by
              split at hu
              · rename_i e0
                subst e0
                split at hu
                · assumption
                · cases hu
              · split at hu
                · assumption
                · cases hu
            refine ⟨k, List.mem_range.2 hkl, ?_⟩
            rw [e]
            unfold pcell
            rw [h.f, h.w]
            have : (k == 0) = u := by
              by_cases e0 : 0 = k
              · subst e0; rw [if_pos rfl, if_pos hkl] at hu; simpa using hu
              · rw [if_neg e0, if_pos hkl] at hu
                simp only [Option.some.injEq] at hu
                rw [← hu]
                simp; omega
            rw [this]
            rfl
      · unfold pgc
        rw [List.map_map]
        refine List.pairwise_map.2 ?_
        refine List.Pairwise.imp (R := (· < ·)) (fun {a b} hab e => ?_) List.pairwise_lt_range
        have e2 : r.f + m * r.w + (a : Int) * z = r.f + m * r.w + (b : Int) * z := e
        have := Int.eq_of_mul_eq_mul_right (by omega : z ≠ 0) (by omega : (a : Int) * z = b * z)
        omega
theorem rel_new (fr ps wd : Int) : Rel (mnew fr ps wd) (rnew fr ps wd) := by
  have e1 : Sm.cut fr 0 1048576 = cut3 0 1048576 fr := rfl
  have e2 : Sm.cut ps 0 64 = cut3 0 64 ps := rfl
  have e3 : Sm.cut wd 1 256 = cut3 1 256 wd := rfl
  refine ⟨si_new _ _ _, e1, e3, ?_, ?_, List.nodup_nil, fun c => ?_⟩
  · show (Sm.cut ps 0 64).toNat = _
    rw [e2]; simp [mnew]
  · show List.replicate (Sm.cut ps 0 64).toNat false = _
    rw [e2]; simp [mnew, fre]
  · constructor
    · intro h; cases h
    · rintro ⟨i, p, hp, hc⟩
      have := List.eq_of_mem_replicate (List.mem_of_getElem? hp)
      rw [this] at hc
      rcases hc with ⟨h, _⟩ | ⟨h, _⟩ <;> exact absurd h (by decide)
end Go.Proofs.Ytjgjablmkljfoaa.Mr
