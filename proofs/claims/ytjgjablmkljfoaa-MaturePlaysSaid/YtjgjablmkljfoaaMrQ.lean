/- The reference's list of cells and the program's pages: what begins where, how much is in use, Pend, Done, Give. No condition. -/
import Derived.Test.YtjgjablmkljfoaaMrP
set_option linter.unusedVariables false
set_option linter.unusedSimpArgs false
namespace Go.Proofs.Ytjgjablmkljfoaa.Mr
open Go.RowKit Go.Proofs.Ytjgjablmkljfoaa.W Go.Proofs.Ytjgjablmkljfoaa.Cl Go.Proofs.Ytjgjablmkljfoaa.Ma
theorem sv_sorted {B sz : Int} (hsz : 1 ≤ sz) : ∀ (u : List Bool) (k : Nat), (sv B sz u k).Pairwise (· < ·) := by
  intro u
  induction u with
  | nil => intro k; exact List.Pairwise.nil
  | cons x r ih =>
    intro k
    unfold sv
    rw [List.pairwise_append]
    refine ⟨?_, ih _, fun a ha b hb => ?_⟩
    · split <;> simp
    · split at ha
      · simp only [List.mem_singleton] at ha
        subst ha
        obtain ⟨j, _, rfl⟩ := sv_iff.1 hb
        have := Int.mul_lt_mul_of_pos_right (by omega : (k : Int) < ((k + 1 + j : Nat) : Int)) (by omega : 0 < sz)
        omega
      · cases ha
theorem stL_sorted {s : MS} (hs : SI s) {fr te : Int} : ∀ (n j : Nat), n = s.l.length - j → (stL s.f s.w fr te (s.l.drop j) j).Pairwise (· < ·) := by
  intro n
  induction n with
  | zero =>
    intro j hn
    rw [List.drop_of_length_le (by omega)]
    exact List.Pairwise.nil
  | succ n ih =>
    intro j hn
    have hj : j < s.l.length := by omega
    have hp : s.l[j]? = some s.l[j] := List.getElem?_eq_getElem hj
    have hok := hs.ok.2.2.2.1 _ (List.mem_of_getElem? hp)
    rw [stL_drop hp, List.pairwise_append]
    refine ⟨?_, ih (j + 1) (by omega), fun a ha b hb => ?_⟩
    · split
      · exact List.Pairwise.nil
      · refine List.Pairwise.filter _ ?_
        unfold stP
        split
        · simp
        · rcases hok with ⟨h1, h2, _⟩ | ⟨_, h2, _⟩
          · exact sv_sorted h2 _ _
          · rw [h2]; exact List.Pairwise.nil
    · split at ha
      · cases ha
      · unfold inn at ha
        rw [List.mem_filter] at ha
        obtain ⟨k, hk⟩ := (stP_iff hs.ok hp).1 ha.1
        obtain ⟨_, _, i, m, q, hi, hq⟩ := (stL_iff hs.ok n (j + 1) (by omega)).1 hb
        have h1 := use_lt hs hk hq (by omega)
        have h2 := (use_in hs.ok hk).2.1
        omega
theorem bub_mem {x : Int} {O : List Int} {y : Int} : ∀ k, k ≤ O.length → (y ∈ bub x O k ↔ y = x ∨ y ∈ O) := by
  intro k
  induction k with
  | zero => intro _; simp [bub]
  | succ k ih =>
    intro hk
    unfold bub
    split
    · exact ih (by omega)
    · rw [List.mem_append, List.mem_cons]
      constructor
      · rintro (h | h | h)
        · exact .inr (List.mem_of_mem_take h)
        · exact .inl h
        · exact .inr (List.mem_of_mem_drop h)
      · rintro (h | h)
        · exact .inr (.inl h)
        · rw [← List.take_append_drop (k + 1) O, List.mem_append] at h
          rcases h with h | h
          · exact .inl h
          · exact .inr (.inr h)
theorem bub_sorted {x : Int} {O : List Int} (hO : O.Pairwise (· < ·)) (hx : x ∉ O) : ∀ k, k ≤ O.length → (∀ y ∈ O.drop k, x < y) → (bub x O k).Pairwise (· < ·) := by
  intro k
  induction k with
  | zero =>
    intro _ h
    unfold bub
    rw [List.pairwise_cons]
    exact ⟨by simpa using h, hO⟩
  | succ k ih =>
    intro hk h
    have hg : O[k]? = some O[k] := List.getElem?_eq_getElem (by omega)
    unfold bub
    rw [hg]
    simp only [Option.getD_some]
    split
    · rename_i hlt
      refine ih (by omega) (fun y hy => ?_)
      rw [List.drop_eq_getElem_cons (by omega)] at hy
      rcases List.mem_cons.1 hy with rfl | hy
      · exact hlt
      · exact h y hy
    · rename_i hlt
      have hne : x ≠ O[k] := fun e => hx (e ▸ List.getElem_mem _)
      have hs := hO
      rw [← List.take_append_drop (k + 1) O, List.pairwise_append] at hs
      obtain ⟨h1, h2, h3⟩ := hs
      rw [List.pairwise_append, List.pairwise_cons]
      refine ⟨h1, ⟨h, h2⟩, fun a ha b hb => ?_⟩
      have hax : a ≤ O[k] := by
        rw [List.take_succ_eq_append_getElem (by omega)] at ha h1
        rw [List.pairwise_append] at h1
        rcases List.mem_append.1 ha with ha | ha
        · exact Int.le_of_lt (h1.2.2 a ha _ (by simp))
        · simp only [List.mem_singleton] at ha; omega
      rcases List.mem_cons.1 hb with rfl | hb
      · omega
      · exact h3 a ha b hb
theorem rst_spec {fr te : Int} : ∀ (l : List Ce) (O : List Int), O.Pairwise (· < ·) → (l.map (·.a)).Nodup → (∀ c ∈ l, c.a ∉ O) →
    (rst fr te l O).Pairwise (· < ·) ∧ ∀ x, x ∈ rst fr te l O ↔ x ∈ O ∨ ∃ c ∈ l, c.u = true ∧ fr ≤ c.a ∧ c.a < te ∧ c.a = x := by
  intro l
  induction l with
  | nil => intro O hO _ _; exact ⟨hO, fun x => by simp [rst]⟩
  | cons c r ih =>
    intro O hO hn hd
    rw [List.map_cons, List.nodup_cons] at hn
    unfold rst
    split
    · rename_i hc
      obtain ⟨h1, h2⟩ := ih (bub c.a O O.length) (bub_sorted hO (hd c List.mem_cons_self) _ (Nat.le_refl _) (by simp)) hn.2 (fun d hdm hx => by
        rcases (bub_mem O.length (Nat.le_refl _)).1 hx with e | e
        · exact hn.1 (e ▸ List.mem_map_of_mem hdm)
        · exact hd d (List.mem_cons_of_mem _ hdm) e)
      refine ⟨h1, fun x => ?_⟩
      rw [h2, bub_mem O.length (Nat.le_refl _)]
      constructor
      · rintro ((e | e) | ⟨d, hd, e⟩)
        · exact .inr ⟨c, List.mem_cons_self, hc.1, hc.2.1, hc.2.2, e.symm⟩
        · exact .inl e
        · exact .inr ⟨d, List.mem_cons_of_mem _ hd, e⟩
      · rintro (e | ⟨d, hd, e⟩)
        · exact .inl (.inr e)
        · rcases List.mem_cons.1 hd with rfl | hd
          · exact .inl (.inl e.2.2.2.symm)
          · exact .inr ⟨d, hd, e⟩
    · rename_i hc
      obtain ⟨h1, h2⟩ := ih O hO hn.2 (fun d hdm => hd d (List.mem_cons_of_mem _ hdm))
      refine ⟨h1, fun x => ?_⟩
      rw [h2]
      constructor
      · rintro (e | ⟨d, hd, e⟩)
        · exact .inl e
        · exact .inr ⟨d, List.mem_cons_of_mem _ hd, e⟩
      · rintro (e | ⟨d, hd, e⟩)
        · exact .inl e
        · rcases List.mem_cons.1 hd with rfl | hd
          · exact absurd ⟨e.1, e.2.1, e.2.2.1⟩ hc
          · exact .inr ⟨d, hd, e⟩
theorem sorted_ext : ∀ {l m : List Int}, l.Pairwise (· < ·) → m.Pairwise (· < ·) → (∀ x, x ∈ l ↔ x ∈ m) → l = m := by
  intro l
  induction l with
  | nil =>
    intro m _ _ h
    cases m with
    | nil => rfl
    | cons y r => exact absurd ((h y).2 List.mem_cons_self) (by simp)
  | cons x l ih =>
    intro m hl hm h
    cases m with
    | nil => exact absurd ((h x).1 List.mem_cons_self) (by simp)
    | cons y m =>
      rw [List.pairwise_cons] at hl hm
      have hxy : x = y := by
        rcases List.mem_cons.1 ((h x).1 List.mem_cons_self) with e | e
        · exact e
        · rcases List.mem_cons.1 ((h y).2 List.mem_cons_self) with e2 | e2
          · exact e2.symm
          · have := hm.1 x e; have := hl.1 y e2; omega
      subst hxy
      rw [ih hl.2 hm.2 (fun z => ?_)]
      constructor
      · intro hz
        rcases List.mem_cons.1 ((h z).1 (List.mem_cons_of_mem _ hz)) with e | e
        · have := hl.1 z hz; omega
        · exact e
      · intro hz
        rcases List.mem_cons.1 ((h z).2 (List.mem_cons_of_mem _ hz)) with e | e
        · have := hm.1 z hz; omega
        · exact e
theorem sorted_nodup {l : List Int} (h : l.Pairwise (· < ·)) : l.Nodup := h.imp (fun h e => by omega)
theorem Rel.starts {s : MS} {r : RS} (h : Rel s r) (fr te : Int) : rst fr te r.cs [] = stL s.f s.w fr te s.l 0 := by
  obtain ⟨h1, h2⟩ := rst_spec (fr := fr) (te := te) r.cs [] List.Pairwise.nil h.nd (by simp)
  have h3 := stL_sorted h.si (fr := fr) (te := te) s.l.length 0 (by omega)
  rw [List.drop_zero] at h3
  refine sorted_ext h1 h3 (fun x => ?_)
  rw [h2, starts_iff h.si.ok, h.has]
  constructor
  · rintro (e | ⟨c, hc, e1, e2, e3, rfl⟩)
    · cases e
    · exact ⟨e2, e3, c, hc, rfl, e1⟩
  · rintro ⟨e2, e3, c, hc, rfl, e1⟩
    exact .inr ⟨c, hc, e1, e2, e3, rfl⟩
theorem usP_sum (f n : Int) (l : List Pg) (xs : List Int) : usP f n l xs = (xs.map fun x => szO n l (atO f n l x)).sum := by
  induction xs with
  | nil => rfl
  | cons x r ih => unfold usP; rw [ih]; rfl
theorem stL_all {L : List Pg} {f n te : Int} (hn : 1 ≤ n) : ∀ (l : List Pg) (i : Nat), (∀ j p, l[j]? = some p → f + ((i + j : Nat) : Int) * n < te ∧ ∀ x ∈ stP f n (i + j) p, x < te ∧ f ≤ x) → 0 ≤ f → usL f n L l i = ((stL f n f te l i).map fun x => szO n L (atO f n L x)).sum := by
  intro l
  induction l with
  | nil => intro i _ _; rfl
  | cons p r ih =>
    intro i h hf
    unfold usL stL
    rw [List.map_append, List.sum_append, ih (i + 1) (fun j q hq => by
      have := h (j + 1) q (by simpa using hq)
      rw [show i + (j + 1) = i + 1 + j by omega] at this
      exact this) hf]
    obtain ⟨h1, h2⟩ := h 0 p rfl
    rw [Nat.add_zero] at h1 h2
    have h0 : 0 ≤ (i : Int) * n := Int.mul_nonneg (by omega) (by omega)
    rw [if_neg (by omega)]
    have e : inn f te (stP f n i p) = stP f n i p := by
      unfold inn
      rw [List.filter_eq_self]
      intro x hx
      have := h2 x hx
      simp [this.1, this.2]
    rw [e, usP_sum]
theorem perm_sum {l m : List Int} (h : l.Perm m) (f : Int → Int) : (l.map f).sum = (m.map f).sum := by
  induction h with
  | nil => rfl
  | cons x _ ih => simp only [List.map_cons, List.sum_cons, ih]
  | swap x y l => simp only [List.map_cons, List.sum_cons]; omega
  | trans _ _ ih1 ih2 => exact ih1.trans ih2
theorem usS_filter (l : List Ce) : usS l = ((l.filter (·.u)).map (·.n)).sum := by
  induction l with
  | nil => rfl
  | cons c r ih =>
    rw [usS_cons, ih, List.filter_cons]
    cases c.u <;> simp
theorem Rel.used {s : MS} {r : RS} (h : Rel s r) : usS r.cs = usL s.f s.w s.l s.l 0 := by
  have hs := h.si.ok
  obtain ⟨⟨f0, f1⟩, ⟨w0, w1⟩, hl, _⟩ := hs
  have hb : ∀ (j : Nat) (p : Pg), s.l[j]? = some p → s.f + ((0 + j : Nat) : Int) * s.w < 4000000 ∧ ∀ x ∈ stP s.f s.w (0 + j) p, x < 4000000 ∧ s.f ≤ x := fun j p hp => by
    rw [Nat.zero_add]
    have hjl := (List.getElem?_eq_some_iff.1 hp).1
    have h1 : (j : Int) * s.w ≤ 64 * 256 := Int.mul_le_mul (by omega) (by omega) (by omega) (by omega)
    refine ⟨by omega, fun x hx => ?_⟩
    obtain ⟨k, hk⟩ := (stP_iff h.si.ok hp).1 hx
    have h2 := use_end h.si.ok hk
    have h3 := (use_in h.si.ok hk).2.1
    have h4 : (s.l.length : Int) * s.w ≤ 64 * 256 := Int.mul_le_mul (by omega) (by omega) (by omega) (by omega)
    omega
  rw [stL_all (L := s.l) w0 s.l 0 hb f0, usS_filter]
  have hst := stL_sorted h.si (fr := s.f) (te := 4000000) s.l.length 0 (by omega)
  rw [List.drop_zero] at hst
  have hperm : ((r.cs.filter (·.u)).map (·.a)).Perm (stL s.f s.w s.f 4000000 s.l 0) := by
    rw [List.perm_ext_iff_of_nodup ?_ (sorted_nodup hst)]
    · intro x
      rw [starts_iff h.si.ok, h.has, List.mem_map]
      constructor
      · rintro ⟨c, hc, rfl⟩
        rw [List.mem_filter] at hc
        have hh : s.has c.a = true := (h.has _).2 ⟨c, hc.1, rfl, hc.2⟩
        obtain ⟨i, k, p, hu⟩ := (has_iff h.si.ok).1 hh
        have h2 := use_end h.si.ok hu
        have h3 := (use_in h.si.ok hu).2.1
        have h4 : (s.l.length : Int) * s.w ≤ 64 * 256 := Int.mul_le_mul (by omega) (by omega) (by omega) (by omega)
        exact ⟨by omega, by omega, c, hc.1, rfl, hc.2⟩
      · rintro ⟨_, _, c, hc, rfl, hu⟩
        exact ⟨c, List.mem_filter.2 ⟨hc, hu⟩, rfl⟩
    · exact (List.Sublist.map _ List.filter_sublist).nodup h.nd
  rw [← perm_sum hperm, List.map_map]
  congr 1
  apply List.map_congr_left
  intro c hc
  rw [List.mem_filter] at hc
  exact (h.size hc.1 hc.2).symm
theorem ca_pend {s : MS} {i : Nat} {c : Ce} : (∃ q, CA s.pend i q c) ↔ ∃ p, CA s i p c := by
  constructor
  · rintro ⟨q, hq, h⟩
    rw [pend_get] at hq
    obtain ⟨p, hp, rfl⟩ := Option.map_eq_some_iff.1 hq
    exact ⟨p, hp, h⟩
  · rintro ⟨p, hp, h⟩
    exact ⟨pdP p, by rw [pend_get, hp]; rfl, h⟩
theorem Rel.page {s : MS} {r : RS} (h : Rel s r) {n : Nat} {q : Pg} (hq : s.l[n]? = some q) : pdF r n = (q.kind == 1 || q.kind == 2) := by
  have hok := h.si.ok.2.2.2.1 q (List.mem_of_getElem? hq)
  have w0 := h.si.ok.2.1.1
  have e : pdF r n = true ↔ (q.kind = 1 ∨ q.kind = 2) := by
    unfold pdF
    rw [List.any_eq_true]
    constructor
    · rintro ⟨c, hc, hn⟩
      obtain ⟨i, p, hca⟩ := (h.mem c).1 hc
      rw [h.ofI hca] at hn
      have : i = n := by have := eq_of_beq hn; omega
      subst this
      have := hca.1.symm.trans hq
      cases this
      rcases hca.2 with ⟨h2, _⟩ | ⟨h1, _⟩
      · exact .inr h2
      · exact .inl h1
    · rintro (h1 | h2)
      · obtain ⟨k, hk⟩ := h.si.cell n q hq h1
        have hc : CA s n q ⟨s.f + n * s.w + k * q.size, q.size, true, false⟩ := ⟨hq, .inr ⟨h1, k, true, hk, rfl⟩⟩
        exact ⟨_, (h.mem _).2 ⟨n, q, hc⟩, by rw [h.ofI hc]; simp⟩
      · have hc : CA s n q ⟨s.f + n * s.w, pgs s.w q.size * s.w, true, true⟩ := ⟨hq, .inl ⟨h2, rfl⟩⟩
        exact ⟨_, (h.mem _).2 ⟨n, q, hc⟩, by rw [h.ofI hc]; simp⟩
  cases h1 : pdF r n
  · have : ¬ (q.kind = 1 ∨ q.kind = 2) := fun h2 => by rw [e.2 h2] at h1; cases h1
    have a1 : q.kind ≠ 1 := fun h => this (.inl h)
    have a2 : q.kind ≠ 2 := fun h => this (.inr h)
    simp [a1, a2]
  · rcases e.1 h1 with h2 | h2 <;> simp [h2]
theorem Rel.pend {s : MS} {r : RS} (h : Rel s r) : Rel s.pend r.pend := by
  refine ⟨si_pend h.si, h.f, h.w, by rw [show r.pend.p = r.p from rfl, h.p]; simp [MS.pend], ?_, h.nd, fun c => ?_⟩
  · show (List.range r.p).map (pdF r) = (s.l.map pdP).map (·.pend)
    apply List.ext_getElem?
    intro j
    rw [List.getElem?_map, List.getElem?_map, List.getElem?_map]
    by_cases hj : j < s.l.length
    · have hp : s.l[j]? = some s.l[j] := List.getElem?_eq_getElem hj
      rw [hp, List.getElem?_range (by rw [h.p]; exact hj)]
      simp only [Option.map_some, h.page hp]
      rfl
    · rw [List.getElem?_eq_none (by omega : s.l.length ≤ j), List.getElem?_eq_none (by simp [h.p]; omega)]
      rfl
  · show c ∈ r.cs ↔ _
    rw [h.mem]
    exact ⟨fun ⟨i, p, hp⟩ => ⟨i, (ca_pend.2 ⟨p, hp⟩)⟩, fun ⟨i, q, hq⟩ => ⟨i, (ca_pend.1 ⟨q, hq⟩)⟩⟩
theorem Rel.done {s : MS} {r : RS} (h : Rel s r) {k : Nat} (hd : doneB s.l k = true) : Rel (s.done k) { r with pd := r.pd.set k false } := by
  have hpi : PI s.f s.w s.l.length s := ⟨h.si, rfl, rfl, rfl⟩
  have hpi2 := hpi.done (k : Int)
  have e : (s.done k).l = s.l.modify k unP := by unfold MS.done doneR; rw [if_pos hd]; rfl
  have g : ∀ (j : Nat), (s.done k).l[j]? = s.l[j]?.map fun p => if k = j then unP p else p := fun j => by
    rw [e, List.getElem?_modify]
    cases s.l[j]? with
    | none => rfl
    | some p => by_cases hk : k = j <;> simp [hk]
  refine ⟨hpi2.si, h.f, h.w, by rw [hpi2.len]; exact h.p, ?_, h.nd, fun c => ?_⟩
  · show r.pd.set k false = _
    rw [h.pd]
    apply List.ext_getElem?
    intro j
    have e2 : ((s.done k).l.map (·.pend))[j]? = ((s.l[j]?).map fun p => if k = j then unP p else p).map (·.pend) := by rw [List.getElem?_map, g]
    rw [List.getElem?_set, e2]
    by_cases hk : k = j
    · subst hk
      cases hp : s.l[k]? with
      | none =>
        have := List.getElem?_eq_none_iff.1 hp
        rw [if_pos rfl, if_neg (by simp; omega)]; rfl
      | some p =>
        have := (List.getElem?_eq_some_iff.1 hp).1
        rw [if_pos rfl, if_pos (by simpa using this)]
        simp [unP]
    · rw [if_neg hk, List.getElem?_map]
      cases s.l[j]? <;> simp [hk]
  · show c ∈ r.cs ↔ _
    rw [h.mem]
    constructor
    · rintro ⟨i, p, hp, hc⟩
      refine ⟨i, if k = i then unP p else p, by rw [g, hp]; rfl, ?_⟩
      split
      · exact hc
      · exact hc
    · rintro ⟨i, q, hq, hc⟩
      rw [g] at hq
      obtain ⟨p, hp, rfl⟩ := Option.map_eq_some_iff.1 hq
      refine ⟨i, p, hp, ?_⟩
      split at hc
      · exact hc
      · exact hc
end Go.Proofs.Ytjgjablmkljfoaa.Mr
