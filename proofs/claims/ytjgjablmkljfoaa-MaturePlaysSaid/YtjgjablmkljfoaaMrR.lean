/- The reference's list of cells and the program's pages: Give. No condition. -/
import Derived.Test.YtjgjablmkljfoaaMrQ
set_option linter.unusedVariables false
set_option linter.unusedSimpArgs false
namespace Go.Proofs.Ytjgjablmkljfoaa.Mr
open Go.RowKit Go.Proofs.Ytjgjablmkljfoaa.W Go.Proofs.Ytjgjablmkljfoaa.Cl Go.Proofs.Ytjgjablmkljfoaa.Ma
/-- One cell is another one. -/
theorem mem_put {l : List Ce} {j : Nat} {c d x : Ce} (hn : (l.map (·.a)).Nodup) (hj : l[j]? = some c) (hd : d.a = c.a) : (x ∈ l.set j d ↔ x = d ∨ (x ∈ l ∧ x ≠ c)) ∧ (l.set j d).map (·.a) = l.map (·.a) := by
  have hjl := (List.getElem?_eq_some_iff.1 hj).1
  have e : (l.set j d).map (·.a) = l.map (·.a) := by
    rw [List.map_set, hd]
    apply List.ext_getElem?
    intro i
    rw [List.getElem?_set]
    split
    · rename_i h
      subst h
      rw [List.getElem?_map, hj]
      simp [hjl]
    · rfl
  refine ⟨?_, e⟩
  constructor
  · intro h
    obtain ⟨i, hi⟩ := List.mem_iff_getElem?.1 h
    rw [List.getElem?_set] at hi
    split at hi
    · first | (cases hi; exact .inl rfl) | (split at hi <;> cases hi; exact .inl rfl)
    · rename_i hij
      refine .inr ⟨List.mem_of_getElem? hi, fun e => ?_⟩
      subst e
      have h1 : (l.map (·.a))[i]? = (l.map (·.a))[j]? := by rw [List.getElem?_map, List.getElem?_map, hi, hj]
      have := (List.getElem?_inj (by simpa using (List.getElem?_eq_some_iff.1 hi).1) hn).1 h1
      exact hij this.symm
  · rintro (rfl | ⟨h1, h2⟩)
    · exact List.mem_set hjl _
    · obtain ⟨i, hi⟩ := List.mem_iff_getElem?.1 h1
      refine List.mem_iff_getElem?.2 ⟨i, ?_⟩
      rw [List.getElem?_set]
      split
      · rename_i e
        subst e
        rw [hj] at hi
        cases hi
        exact absurd rfl h2
      · exact hi
theorem giveK_pos {s : RS} {n : Int} {l : List Ce} (h : ∃ c ∈ l, ofI s c.a = n ∧ c.u = true) : giveK s n l = { s with cs := l } := by
  obtain ⟨c, h1, h2, h3⟩ := h
  unfold giveK
  rw [if_pos]
  rw [List.any_eq_true]
  exact ⟨c, h1, by simp [h2, h3]⟩
theorem giveK_neg {s : RS} {n : Int} {l : List Ce} (h : ∀ c ∈ l, ofI s c.a = n → c.u = false) : giveK s n l = { s with cs := l.filter (fun c => !(ofI s c.a == n)), pd := s.pd.set n.toNat false } := by
  unfold giveK
  rw [if_neg]
  rw [List.any_eq_true]
  rintro ⟨c, h1, h2⟩
  simp only [Bool.and_eq_true, beq_iff_eq] at h2
  rw [h c h1 h2.1] at h2
  cases h2.2
theorem Rel.give {s : MS} {r : RS} (h : Rel s r) (x : Int) : Rel (s.give x) (r.give x) := by
  rcases fnd_b (x := x) (l := r.cs) (i := 0) with ⟨h1, h2⟩ | ⟨idx, c0, h1, h2, h3, h4⟩
  · have hh : s.has x = false := by
      cases e : s.has x
      · rfl
      · obtain ⟨c, hc, h3⟩ := (h.has x).1 e
        exact absurd h3 (h2 c hc)
    rw [give_not hh]
    unfold RS.give
    rw [h1, if_neg (by omega)]
    exact h
  · rw [Nat.zero_add] at h1
    have hc0 := List.mem_of_getElem? h2
    obtain ⟨i, p, hca⟩ := (h.mem c0).1 hc0
    obtain ⟨k, hu, _⟩ := ca_use hca h4
    have hgo := give_spec h.si (h3 ▸ hu)
    have hoi : Mr.ofI r x = i := by rw [← h3]; exact h.ofI hca
    have hrg : r.give x = giveK r i (r.cs.set idx (unu c0)) := by
      unfold RS.give
      rw [h1, if_pos (by omega), Int.toNat_natCast, modify_set h2, hoi]
    have hput := fun y => mem_put (x := y) (d := unu c0) h.nd h2 rfl
    have hg2 : (s.give x).l = giveR s.f s.w s.l x := rfl
    have hgl : giveR s.f s.w s.l x = if p.kind = 2 then clr fre i (pgs s.w p.size).toNat s.l else s.l.set i (gvP p k) := by
      unfold giveR
      rw [use_at h.si.ok (h3 ▸ hu)]
      simp only [hca.1]
    have hil := (List.getElem?_eq_some_iff.1 hca.1).1
    rw [hrg]
    -- the others of the page
    rcases hca.2 with ⟨hk2, hce⟩ | ⟨hk1, m, u, hm, hce⟩
    · -- large
      have hgeo := (ca_geo h.si.ok hca).2.2.2.2 hk2
      obtain ⟨b1, b2, b3, b4⟩ := hgeo
      have hle : i + (pgs s.w p.size).toNat ≤ s.l.length := by omega
      rw [if_pos hk2] at hgl
      have get : ∀ j : Nat, (s.give x).l[j]? = if i ≤ j ∧ j < i + (pgs s.w p.size).toNat then some fre else s.l[j]? := fun j => by rw [hg2, hgl]; exact clr_get hle j
      have only : ∀ c ∈ r.cs, Mr.ofI r c.a = i → c = c0 := fun c hc ho => by
        obtain ⟨j, q, hq⟩ := (h.mem c).1 hc
        rw [h.ofI hq] at ho
        obtain rfl : j = i := by omega
        have := hq.1.symm.trans hca.1
        cases this
        rcases hq.2 with ⟨_, e⟩ | ⟨e, _⟩
        · rw [e, hce]
        · omega
      rw [giveK_neg (fun c hc ho => by
        rcases (hput c).1.1 hc with rfl | ⟨h5, h6⟩
        · rfl
        · exact absurd (only c h5 ho) h6), Int.toNat_natCast]
      refine ⟨hgo.si, by rw [hgo.f]; exact h.f, by rw [hgo.w]; exact h.w, by rw [hgo.len]; exact h.p, ?_, ?_, fun c => ?_⟩
      · show r.pd.set i false = _
        rw [h.pd]
        apply List.ext_getElem?
        intro j
        have e2 : ((s.give x).l.map (·.pend))[j]? = (if i ≤ j ∧ j < i + (pgs s.w p.size).toNat then some fre else s.l[j]?).map (·.pend) := by rw [List.getElem?_map, get]
        rw [List.getElem?_set, e2]
        by_cases hij : i = j
        · subst hij
          rw [if_pos rfl, if_pos (by simpa using hil), if_pos (by omega)]
          rfl
        · rw [if_neg hij, List.getElem?_map]
          split
          · rename_i hr
            obtain ⟨q, hq, hk3⟩ := h.si.big i p hca.1 hk2 j (by omega) hr.2
            rw [hq]
            simp only [Option.map_some]
            rw [h.si.rest j q hq (by omega) (by omega)]
            rfl
          · rfl
      · refine (List.Sublist.map _ (List.filter_sublist (l := r.cs.set idx (unu c0)))).nodup ?_
        rw [(hput c0).2]
        exact h.nd
      · show c ∈ List.filter _ _ ↔ _
        rw [List.mem_filter, (hput c).1]
        constructor
        · rintro ⟨h5, h6⟩
          have hne : Mr.ofI r c.a ≠ i := by simpa using h6
          rcases h5 with rfl | ⟨h5, _⟩
          · exact absurd (h.ofI hca) hne
          · obtain ⟨j, q, hq⟩ := (h.mem c).1 h5
            rw [h.ofI hq] at hne
            refine ⟨j, q, ?_, by rw [hgo.f, hgo.w]; exact hq.2⟩
            rw [get, if_neg]
            · exact hq.1
            · intro hr
              obtain ⟨q', hq', hk3⟩ := h.si.big i p hca.1 hk2 j (by omega) hr.2
              have := hq.1.symm.trans hq'
              cases this
              rcases hq.2 with ⟨e, _⟩ | ⟨e, _⟩ <;> omega
        · rintro ⟨j, q, hq, hqc⟩
          rw [get] at hq
          split at hq
          · cases hq
            rcases hqc with ⟨e, _⟩ | ⟨e, _⟩ <;> exact absurd e (by decide)
          · rename_i hr
            have hq' : CA s j q c := ⟨hq, by rw [hgo.f, hgo.w] at hqc; exact hqc⟩
            have ho := h.ofI hq'
            refine ⟨.inr ⟨(h.mem c).2 ⟨j, q, hq'⟩, fun e => ?_⟩, ?_⟩
            · subst e
              have := ca_inj h.si.ok hq' hca rfl
              omega
            · rw [ho]
              have : (j : Int) ≠ i := by omega
              simpa using this
    · -- a cell
      have hku : k = m ∧ u = true := by
        have e1 : c0.u = u := by rw [hce]
        have e2 : c0.a = s.f + i * s.w + m * p.size := by rw [hce]
        rw [h4] at e1
        subst e1
        have := use_one h.si.ok hu (show Use s c0.a i m p from ⟨hca.1, .inr ⟨hk1, hm, e2⟩⟩)
        exact ⟨this.2.1, rfl⟩
      obtain ⟨rfl, rfl⟩ := hku
      have hk2 : ¬ p.kind = 2 := by omega
      rw [if_neg hk2] at hgl
      have get : ∀ j : Nat, (s.give x).l[j]? = if i = j then some (gvP p k) else s.l[j]? := fun j => by
        rw [hg2, hgl, List.getElem?_set]
        by_cases e : i = j
        · subst e; simp [hil]
        · simp [e]
      have hkl := (List.getElem?_eq_some_iff.1 hm).1
      have ugt : ∀ j : Nat, (p.used.set k false)[j]? = if k = j then some false else p.used[j]? := fun j => by
        rw [List.getElem?_set]
        by_cases e : k = j
        · subst e; simp [hkl]
        · simp [e]
      have hou : ∀ c, CA s i p c → c ≠ c0 → ∃ j v, k ≠ j ∧ p.used[j]? = some v ∧ c = ⟨s.f + i * s.w + j * p.size, p.size, v, false⟩ := fun c hc hne => by
        rcases hc.2 with ⟨e, _⟩ | ⟨_, j, v, hj, e⟩
        · exact absurd e hk2
        · refine ⟨j, v, fun e2 => ?_, hj, e⟩
          subst e2
          rw [hm] at hj
          cases hj
          exact hne (e.trans hce.symm)
      cases hnb : noneB (p.used.set k false)
      · -- some are left
        have hgv : gvP p k = ⟨p.kind, p.size, p.used.set k false, p.pend⟩ := by unfold gvP; rw [hnb]; rfl
        rw [hgv] at get
        have hsome : ∃ j : Nat, (p.used.set k false)[j]? = some true := by
          unfold noneB at hnb
          have : (p.used.set k false).any id = true := by simpa using hnb
          obtain ⟨b, hb, hb2⟩ := List.any_eq_true.1 this
          obtain ⟨j, hj⟩ := List.mem_iff_getElem?.1 hb
          simp only [id] at hb2
          subst hb2
          exact ⟨j, hj⟩
        obtain ⟨j, hj⟩ := hsome
        rw [ugt] at hj
        have hkj : k ≠ j := fun e => by rw [if_pos e] at hj; cases hj
        rw [if_neg hkj] at hj
        have hcj : CA s i p ⟨s.f + i * s.w + j * p.size, p.size, true, false⟩ := ⟨hca.1, .inr ⟨hk1, j, true, hj, rfl⟩⟩
        have hjm := (h.mem _).2 ⟨i, p, hcj⟩
        have hcjne : (⟨s.f + i * s.w + j * p.size, p.size, true, false⟩ : Ce) ≠ c0 := fun e => by
          have hu1 : Use s c0.a i j p := ⟨hca.1, .inr ⟨hk1, hj, by rw [← e]⟩⟩
          exact hkj (use_one h.si.ok hu hu1).2.1
        rw [giveK_pos ⟨_, (hput _).1.2 (.inr ⟨hjm, hcjne⟩), h.ofI hcj, rfl⟩]
        refine ⟨hgo.si, by rw [hgo.f]; exact h.f, by rw [hgo.w]; exact h.w, by rw [hgo.len]; exact h.p, ?_, ?_, fun c => ?_⟩
        · show r.pd = _
          rw [h.pd]
          apply List.ext_getElem?
          intro j
          have e2 : ((s.give x).l.map (·.pend))[j]? = (if i = j then some ⟨p.kind, p.size, p.used.set k false, p.pend⟩ else s.l[j]?).map (·.pend) := by rw [List.getElem?_map, get]
          rw [e2, List.getElem?_map]
          split
          · rename_i e; subst e; rw [hca.1]; rfl
          · rfl
        · show ((r.cs.set idx (unu c0)).map (·.a)).Nodup
          rw [(hput c0).2]
          exact h.nd
        · show c ∈ r.cs.set idx (unu c0) ↔ _
          rw [(hput c).1]
          constructor
          · rintro (rfl | ⟨h5, h6⟩)
            · refine ⟨i, ⟨p.kind, p.size, p.used.set k false, p.pend⟩, by rw [get, if_pos rfl], .inr ⟨hk1, k, false, ?_, ?_⟩⟩
              · show (p.used.set k false)[k]? = _
                rw [ugt, if_pos rfl]
              · rw [hgo.f, hgo.w, hce]; rfl
            · obtain ⟨j, q, hq⟩ := (h.mem c).1 h5
              by_cases e : i = j
              · subst e
                have := hq.1.symm.trans hca.1
                cases this
                obtain ⟨n, v, hkn, hv, rfl⟩ := hou c hq h6
                refine ⟨i, ⟨p.kind, p.size, p.used.set k false, p.pend⟩, by rw [get, if_pos rfl], .inr ⟨hk1, n, v, ?_, ?_⟩⟩
                · show (p.used.set k false)[n]? = _
                  rw [ugt, if_neg hkn]; exact hv
                · rw [hgo.f, hgo.w]
              · exact ⟨j, q, by rw [get, if_neg e]; exact hq.1, by rw [hgo.f, hgo.w]; exact hq.2⟩
          · rintro ⟨j, q, hq, hqc⟩
            rw [get] at hq
            rw [hgo.f, hgo.w] at hqc
            split at hq
            · rename_i e
              subst e
              cases hq
              rcases hqc with ⟨e, _⟩ | ⟨_, n, v, hv, rfl⟩
              · exact absurd e hk2
              · have hv' : (p.used.set k false)[n]? = some v := hv
                rw [ugt] at hv'
                split at hv'
                · rename_i e
                  subst e
                  cases hv'
                  left
                  rw [hce]; rfl
                · rename_i e
                  have hcn : CA s i p ⟨s.f + i * s.w + n * p.size, p.size, v, false⟩ := ⟨hca.1, .inr ⟨hk1, n, v, hv', rfl⟩⟩
                  refine .inr ⟨(h.mem _).2 ⟨i, p, hcn⟩, fun e2 => ?_⟩
                  rw [hce] at e2
                  simp only [Ce.mk.injEq] at e2
                  obtain ⟨c1, _⟩ := cell_fits h.si.ok.2.1.1 (h.si.ok.2.2.2.1 p (List.mem_of_getElem? hca.1)) hk1 hkl
                  have := Int.eq_of_mul_eq_mul_right (by omega : p.size ≠ 0) (by omega : (n : Int) * p.size = k * p.size)
                  omega
            · rename_i e
              have hq' : CA s j q c := ⟨hq, hqc⟩
              refine .inr ⟨(h.mem c).2 ⟨j, q, hq'⟩, fun e2 => ?_⟩
              subst e2
              exact e (ca_inj h.si.ok hca hq' rfl).1
      · -- none is
        have hgv : gvP p k = fre := by unfold gvP; rw [hnb]; rfl
        rw [hgv] at get
        have hno : ∀ j : Nat, (p.used.set k false)[j]? ≠ some true := fun j hj => by
          unfold noneB at hnb
          have : (p.used.set k false).any id = true := List.any_eq_true.2 ⟨true, List.mem_of_getElem? hj, rfl⟩
          rw [this] at hnb; cases hnb
        rw [giveK_neg (fun c hc ho => by
          rcases (hput c).1.1 hc with rfl | ⟨h5, h6⟩
          · rfl
          · obtain ⟨j, q, hq⟩ := (h.mem c).1 h5
            rw [h.ofI hq] at ho
            obtain rfl : j = i := by omega
            have := hq.1.symm.trans hca.1
            cases this
            obtain ⟨n, v, hkn, hv, rfl⟩ := hou c hq h6
            cases v
            · rfl
            · exact absurd (by rw [ugt, if_neg hkn]; exact hv) (hno n)), Int.toNat_natCast]
        refine ⟨hgo.si, by rw [hgo.f]; exact h.f, by rw [hgo.w]; exact h.w, by rw [hgo.len]; exact h.p, ?_, ?_, fun c => ?_⟩
        · show r.pd.set i false = _
          rw [h.pd]
          apply List.ext_getElem?
          intro j
          have e2 : ((s.give x).l.map (·.pend))[j]? = (if i = j then some fre else s.l[j]?).map (·.pend) := by rw [List.getElem?_map, get]
          rw [List.getElem?_set, e2]
          by_cases hij : i = j
          · subst hij
            rw [if_pos rfl, if_pos (by simpa using hil), if_pos rfl]
            rfl
          · rw [if_neg hij, if_neg hij, List.getElem?_map]
        · refine (List.Sublist.map _ (List.filter_sublist (l := r.cs.set idx (unu c0)))).nodup ?_
          rw [(hput c0).2]
          exact h.nd
        · show c ∈ List.filter _ _ ↔ _
          rw [List.mem_filter, (hput c).1]
          constructor
          · rintro ⟨h5, h6⟩
            have hne : Mr.ofI r c.a ≠ i := by simpa using h6
            rcases h5 with rfl | ⟨h5, _⟩
            · exact absurd (h.ofI hca) hne
            · obtain ⟨j, q, hq⟩ := (h.mem c).1 h5
              rw [h.ofI hq] at hne
              exact ⟨j, q, by rw [get, if_neg (by omega)]; exact hq.1, by rw [hgo.f, hgo.w]; exact hq.2⟩
          · rintro ⟨j, q, hq, hqc⟩
            rw [get] at hq
            split at hq
            · cases hq
              rcases hqc with ⟨e, _⟩ | ⟨e, _⟩ <;> exact absurd e (by decide)
            · rename_i hr
              have hq' : CA s j q c := ⟨hq, by rw [hgo.f, hgo.w] at hqc; exact hqc⟩
              have ho := h.ofI hq'
              refine ⟨.inr ⟨(h.mem c).2 ⟨j, q, hq'⟩, fun e => ?_⟩, ?_⟩
              · subst e
                have := ca_inj h.si.ok hq' hca rfl
                omega
              · rw [ho]
                have : (j : Int) ≠ i := by omega
                simpa using this
end Go.Proofs.Ytjgjablmkljfoaa.Mr
