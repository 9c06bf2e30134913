/- The reference's space as one part of memory; alike. No condition. -/
import Derived.Test.YtjgjablmkljfoaaMrS
import Derived.Test.YtjgjablmkljfoaaSmall
set_option linter.unusedVariables false
set_option linter.unusedSimpArgs false
namespace Go.Proofs.Ytjgjablmkljfoaa.Mr
open Go.RowKit Go.Proofs.Ytjgjablmkljfoaa.W Go.Proofs.Ytjgjablmkljfoaa.Cl Go.Proofs.Ytjgjablmkljfoaa.Ma
def Rsp (b : Nat) (r : RS) : Pr := exP fun k : Nat × Option Addr × Nat => sepP (rparts b k.1 k.2.1 k.2.2 r)
section
variable {W w : World} {oo : Nat → Prop} {b : Nat} {s : MS} {r : RS} {l : List Pr} {F : FuncId} {args : Array Value}
theorem Rsp_lift {P : Ending → RS → Prop} (hc : ∀ (o : Nat → Prop) (g : Nat) (A : Option Addr) (c : Nat), SepO w o w (rparts b g A c r) → Calls Try.prog F args w fun e w' => ∃ r', P e r' ∧ ∃ g' A' c', SepO w o w' (rparts b g' A' c' r'))
    (h : SepO W oo w l) (k : Nat) (hk : l[k]? = some (Rsp b r)) : Calls Try.prog F args w fun e w' => ∃ r', P e r' ∧ SepO W oo w' (l.set k (Rsp b r')) := by
  obtain ⟨o, ⟨⟨g, A, c⟩, hsep⟩, _, hup⟩ := h.open_ k hk
  refine (hc o g A c (SepO.enter hsep)).mono ?_
  rintro e w' ⟨r', hq, g', A', c', h'⟩
  exact ⟨r', hq, hup w' (Rsp b r') ⟨(g', A', c'), h'.leave⟩ h'.keep0⟩
theorem Rsp_read {P : Ending → Prop} (hc : ∀ (o : Nat → Prop) (g : Nat) (A : Option Addr) (c : Nat), SepO w o w (rparts b g A c r) → Calls Try.prog F args w fun e w' => P e ∧ SepO w o w' (rparts b g A c r))
    (h : SepO W oo w l) (k : Nat) (hk : l[k]? = some (Rsp b r)) : Calls Try.prog F args w fun e w' => P e ∧ SepO W oo w' l := by
  have := Rsp_lift (P := fun e r' => P e ∧ r' = r) (fun o g A c h => (hc o g A c h).mono fun e w' ⟨h1, h2⟩ => ⟨r, ⟨h1, rfl⟩, g, A, c, h2⟩) h k hk
  refine this.mono ?_
  rintro e w' ⟨r', ⟨h1, rfl⟩, h2⟩
  rw [list_same hk] at h2
  exact ⟨h1, h2⟩
theorem Take_rs (hR : Rel s r) (x : Int) (hx9 : x ≤ 9223372036854775807) (h : SepO W oo w l) (k : Nat) (hk : l[k]? = some (Rsp b r)) :
    Calls Try.prog 20 #[pt b, .int .i64 x] w fun e w' => ∃ r', (e = .returned (.tuple #[.int .i64 (oI (s.took x)), .bool (s.took x).isSome]) ∧ Rel (s.take x) r') ∧ SepO W oo w' (l.set k (Rsp b r')) := by
  refine Rsp_lift (P := fun e r' => e = .returned (.tuple #[.int .i64 (oI (s.took x)), .bool (s.took x).isSome]) ∧ Rel (s.take x) r') (fun o g A c h => ?_) h k hk
  have ho := hR.ok
  by_cases hx : x < 1
  · have ht : s.took x = none := by unfold MS.took takeR; rw [if_pos hx]
    refine (Take_low x w _ hx).mono ?_
    rintro e w' ⟨rfl, rfl⟩
    rw [ht, take_none ht]
    exact ⟨r, ⟨rfl, hR⟩, g, A, c, h⟩
  · cases hb : big s.w x
    · have hb' : ¬ r.w / 2 < rnd x := by rw [hR.w]; unfold big at hb; simpa using hb
      obtain ⟨t1, t2⟩ := hR.take_cell (x := x) (z := rnd x) (by omega) hx9 hb rfl
      have hl : r.cs.length < 10000 ∨ ¬ r.cs.length < 10000 := by omega
      refine (Take_small x h ho (by omega) rfl hb' hR.len).mono ?_
      rintro e w' (⟨j, p, h1, h2, rfl, h3⟩ | ⟨h1, h2, rfl, h3⟩ | ⟨n, h1, h2, rfl, A', c', h3⟩)
      · obtain ⟨e1, e2⟩ := t2 j p h1 h2
        rw [e1]
        exact ⟨_, ⟨rfl, e2⟩, g, A, c, h3⟩
      · obtain ⟨e1, e2⟩ := (hR.take_page (x := x) (z := rnd x) (by omega) hx9 hb rfl (t1 h1)).1 h2
        rw [e1, e2]
        exact ⟨r, ⟨rfl, hR⟩, g, A, c, h3⟩
      · obtain ⟨e1, e2⟩ := (hR.take_page (x := x) (z := rnd x) (by omega) hx9 hb rfl (t1 h1)).2 n h2
        rw [e1]
        exact ⟨_, ⟨rfl, e2⟩, g, A', c', h3⟩
    · have hb' : r.w / 2 < rnd x := by rw [hR.w]; unfold big at hb; simpa using hb
      obtain ⟨C, hC⟩ : ∃ C : Nat, pgs r.w x = C := ⟨(pgs r.w x).toNat, by have := (pgs_b ho.w0 (by omega : 1 ≤ x)).1; omega⟩
      obtain ⟨t1, t2⟩ := hR.take_big (by omega : 1 ≤ x) hx9 hb (by rw [← hR.w]; exact hC)
      refine (Take_big x h ho (by omega) hx9 hb' (by have := hR.len; omega) hC).mono ?_
      rintro e w' (⟨h1, rfl, h2⟩ | ⟨n, h1, rfl, A', c', h2⟩)
      · obtain ⟨e1, e2⟩ := t1 h1
        rw [e1, e2]
        exact ⟨r, ⟨rfl, hR⟩, g, A, c, h2⟩
      · obtain ⟨e1, e2⟩ := t2 n h1
        rw [e1]
        exact ⟨_, ⟨rfl, e2⟩, g, A', c', h2⟩
theorem Give_rs (hR : Rel s r) (x : Int) (hx : -9223372036854775808 ≤ x ∧ x ≤ 9223372036854775807) (h : SepO W oo w l) (k : Nat) (hk : l[k]? = some (Rsp b r)) :
    Calls Try.prog 21 #[pt b, .int .i64 x] w fun e w' => ∃ r', (e = .returned (.bool (s.has x)) ∧ Rel (s.give x) r') ∧ SepO W oo w' (l.set k (Rsp b r')) := by
  refine Rsp_lift (P := fun e r' => e = .returned (.bool (s.has x)) ∧ Rel (s.give x) r') (fun o g A c h => ?_) h k hk
  refine (Give_in x h hR.ok hx).mono ?_
  rintro e w' ⟨rfl, A', c', h'⟩
  rw [(hR.fhas x).1]
  exact ⟨_, ⟨rfl, hR.give x⟩, g, A', c', h'⟩
theorem Pend_rs (hR : Rel s r) (h : SepO W oo w l) (k : Nat) (hk : l[k]? = some (Rsp b r)) :
    Calls Try.prog 22 #[pt b] w fun e w' => ∃ r', (e = .returned (.tuple #[]) ∧ Rel s.pend r') ∧ SepO W oo w' (l.set k (Rsp b r')) := by
  refine Rsp_lift (P := fun e r' => e = .returned (.tuple #[]) ∧ Rel s.pend r') (fun o g A c h => ?_) h k hk
  refine (Pend_in h hR.ok).mono ?_
  rintro e w' ⟨rfl, h'⟩
  exact ⟨_, ⟨rfl, hR.pend⟩, g, A, c, h'⟩
theorem Size_rs (hR : Rel s r) (x : Int) (h : SepO W oo w l) (k : Nat) (hk : l[k]? = some (Rsp b r)) :
    Calls Try.prog 42 #[pt b, .int .i64 x] w fun e w' => e = .returned (.tuple #[.int .i64 (s.size x), .bool (s.has x)]) ∧ SepO W oo w' l := by
  refine Rsp_read (fun o g A c h => ?_) h k hk
  refine (Size_in x h hR.ok).mono ?_
  rintro e w' ⟨rfl, rfl⟩
  rw [(hR.fhas x).1, (hR.fhas x).2]
  exact ⟨rfl, h⟩
theorem Count_rs (hR : Rel s r) (h : SepO W oo w l) (k : Nat) (hk : l[k]? = some (Rsp b r)) :
    Calls Try.prog 41 #[pt b] w fun e w' => e = .returned (.tuple #[.int .i64 (freeN s.l), .int .i64 (usL s.f s.w s.l s.l 0)]) ∧ SepO W oo w' l := by
  refine Rsp_read (fun o g A c h => ?_) h k hk
  refine (Count_in h hR.ok).mono ?_
  rintro e w' ⟨rfl, h'⟩
  rw [hR.frN, hR.used]
  exact ⟨rfl, h'⟩
theorem Starts_rs (hR : Rel s r) (fr te : Int) (h : SepO W oo w l) (k : Nat) (hk : l[k]? = some (Rsp b r)) : Calls Try.prog 23 #[pt b, .int .i64 fr, .int .i64 te] w fun e w' => ∃ A c, e = .returned (.slice A (stL s.f s.w fr te s.l 0).length c) ∧ SepO W oo w' (l ++ [rowI8 A c (stL s.f s.w fr te s.l 0)]) := by
  obtain ⟨o, ⟨⟨g, A0, c0⟩, hsep⟩, _, hup⟩ := h.open_ k hk
  have := Starts_in fr te (SepO.enter hsep) hR.ok
  rw [hR.starts] at this
  refine this.mono ?_
  rintro e w' ⟨A, c, he, h'⟩
  refine ⟨A, c, he, ?_⟩
  have h1 := hup w' (sepP (rparts b g A0 c0 r ++ [rowI8 A c (stL s.f s.w fr te s.l 0)])) h'.leave h'.keep0
  have hkl := (List.getElem?_eq_some_iff.1 hk).1
  have h2 := h1.split_m (A := rparts b g A0 c0 r) (B := [rowI8 A c (stL s.f s.w fr te s.l 0)]) k (by rw [List.getElem?_set, if_pos rfl, if_pos hkl])
  rw [List.set_set] at h2
  have h3 := h2.weaken (Q := Rsp b r) k (by rw [List.getElem?_append_left (by simpa using hkl), List.getElem?_set, if_pos rfl, if_pos hkl]) (fun w o hp => ⟨(g, A0, c0), hp⟩)
  rw [List.set_append_left _ _ (by simpa using hkl), List.set_set, list_same hk] at h3
  exact h3
theorem New_rs (fr ps wd : Int) (h : SepO W oo w l) : Calls Try.prog 19 #[.int .i64 fr, .int .i64 ps, .int .i64 wd] w fun e w' => ∃ b, e = .returned (pt b) ∧ SepO W oo w' (l ++ [Rsp b (rnew fr ps wd)]) := by
  refine (New_in fr ps wd (Sep.nil w)).mono ?_
  rintro e w' ⟨b, g, rfl, h'⟩
  refine ⟨b, rfl, h.add h'.keep0 ?_⟩
  have h3 := h'.leave
  have h4 := (sepP _).mono h3 (o' := fun i => w.heap.size ≤ i) (fun i h => h.elim (fun h => False.elim h) id)
  exact ⟨(g, none, 0), h4⟩
theorem Rsp_cells (hR : Rel s r) (h : SepO W oo w l) (k : Nat) (hk : l[k]? = some (Rsp b r)) : w.cell? ⟨b, 0, none⟩ = some (.int .i64 s.f) ∧ w.cell? ⟨b, 1, none⟩ = some (.int .i64 (s.l.length : Int)) ∧ w.cell? ⟨b, 2, none⟩ = some (.int .i64 s.w) ∧ ∃ g, w.cell? ⟨b, 4, none⟩ = some (.slice (some ⟨g, 0, none⟩) s.l.length s.l.length) ∧ (∀ (j : Nat) (p : Pg), s.l[j]? = some p → w.cell? ⟨g, j, none⟩ = some (.bool p.pend)) ∧ (∀ j, w.frozen? ⟨g, j, none⟩ = false) ∧ b < w.heap.size ∧ g < w.heap.size ∧ ¬ b = g ∧ ∀ j, SepO W oo (w.setCell ⟨g, j, none⟩ (.bool false)) (l.set k (Rsp b { r with pd := r.pd.set j false })) := by
  obtain ⟨o, ⟨⟨g, A, c⟩, hsep⟩, _, hup⟩ := h.open_ k hk
  have h' := SepO.enter hsep
  have e0 := (r_b h').cell 0
  have e1 := (r_b h').cell 1
  have e2 := (r_b h').cell 2
  have e4 := (r_b h').cell 4
  simp at e0 e1 e2 e4
  rw [hR.f] at e0
  rw [hR.p] at e1 e4
  rw [hR.w] at e2
  refine ⟨e0, e1, e2, g, e4, fun j p hp => ?_, fun j => (r_pd h').frozen j, (r_b h').lt, (r_pd h').lt, (r_b h').ne_ (r_pd h') (by decide), fun j => ?_⟩
  · have hj := (List.getElem?_eq_some_iff.1 hp).1
    rw [(r_pd h').cell, bools_get (by have := hR.ok.pd; have := hR.p; omega), hR.pd, List.getElem?_map, hp]
    rfl
  · have h1 := h'.set_blk (t := 4) (cs := bools r.pd) (g := g) 2 rfl j (.bool false)
    rw [bools_set] at h1
    exact hup _ (Rsp b { r with pd := r.pd.set j false }) ⟨(g, A, c), SepO.leave h1⟩ h1.keep0
end
theorem pn_take {l : List Pg} {j : Nat} {p : Pg} (h : l[j]? = some p) : pn (l.take (j + 1)) = match pn (l.take j) with | some k => some k | none => if p.pend then some j else none := by
  induction l generalizing j with
  | nil => simp at h
  | cons q r ih =>
    cases j with
    | zero =>
      simp at h
      subst h
      simp only [List.take_succ_cons, List.take_zero, pn]
      split <;> rfl
    | succ j =>
      rw [List.take_succ_cons, List.take_succ_cons]
      unfold pn
      cases hq : q.pend
      · simp only [Bool.false_eq_true, if_false]
        rw [ih (by simpa using h)]
        cases pn (r.take j) with
        | none => cases p.pend <;> rfl
        | some k => rfl
      · rfl
def oK : Option Nat → Int | some k => k | none => 0
end Go.Proofs.Ytjgjablmkljfoaa.Mr
