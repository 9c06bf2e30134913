/- Texts of the whole heap, joined: WqE WqF. No condition beside those that each lemma names. -/
import Derived.Test.YtihmkkjmnbehbaaGreatMg25
/- What is noted of old objects that have references to young ones; what the minor cycle has looked through. No condition. -/
set_option linter.unusedVariables false
set_option linter.unusedSimpArgs false
namespace Go.Proofs.YtihmkkjmnbehbaaGreat.Wh
open Go.RowKit Go.Proofs.YtihmkkjmnbehbaaGreat.W
/-- What a reference may be. -/
def Rf (c : CF) (y : Bp.Sp) (m : Mp) (v : Int) : Prop := v = 0 ∨ (∃ q, m v = some q ∧ (inT y v ∨ inF y v)) ∨ (c.mat ≤ v ∧ v ≤ 1048576)
structure Mn (c : CF) (y : Bp.Sp) (mv : Bool) (scan cop : Int) (r : Re.RS) (row : List Int) (m : Mp) (ex : Int) (X : Int → Prop) : Prop where
  rok : ROk c r
  refs : ∀ a p, m a = some p → p.way = a → ∀ i : Nat, (i : Int) < p.hd.ptrs → Rf c y m (p.f i)
  scF : mv = true → ∀ a p, m a = some p → inT y a → a < scan → ∀ i : Nat, (i : Int) < p.hd.ptrs → ¬ inF y (p.f i)
  oldF : ∀ a p, m a = some p → c.mat ≤ a → a ≠ ex → ∀ i : Nat, (i : Int) < p.hd.ptrs → inF y (p.f i) → a ∈ row ∨ (p.hd.noted = true ∧ (inThen r a ∨ X a))
  oldT : ∀ a p, m a = some p → c.mat ≤ a → a ≠ ex → ∀ i : Nat, (i : Int) < p.hd.ptrs → inT y (p.f i) → a ∈ row ∨ (p.hd.noted = true ∧ (inNow r a ∨ inThen r a ∨ X a))
  ntd : ∀ a p, m a = some p → p.hd.noted = true → c.mat ≤ a ∧ (inNow r a ∨ inThen r a ∨ X a)
  rowm : ∀ x ∈ row, c.mat ≤ x ∧ x ≤ 1048576
  rowl : mv = true → 2 * (row.length : Int) ≤ cop
  idle : mv = false → row = [] ∧ r.left ≤ 0
/-- What matters here stays. -/
structure KeepM (m m' : Mp) : Prop where
  fwd : ∀ a p, m a = some p → ∃ q, m' a = some q
  back : ∀ a q, m' a = some q → ∃ p, m a = some p ∧ q.way = p.way ∧ q.hd.ptrs = p.hd.ptrs ∧ q.hd.noted = p.hd.noted ∧ ∀ i : Nat, (i : Int) < p.hd.ptrs → q.f i = p.f i
theorem KeepM.up {m : Mp} {a : Int} {p q : OR} (ha : m a = some p) (h1 : q.way = p.way) (h2 : q.hd.ptrs = p.hd.ptrs) (h3 : q.hd.noted = p.hd.noted) (h4 : ∀ i : Nat, (i : Int) < p.hd.ptrs → q.f i = p.f i) : KeepM m (upM m a q) := by
  refine ⟨fun b r hb => ?_, fun b r hb => ?_⟩
  · by_cases e : b = a
    · subst e; exact ⟨q, upM_self _ _ _⟩
    · exact ⟨r, by rw [upM_ne _ _ e]; exact hb⟩
  · by_cases e : b = a
    · subst e; rw [upM_self] at hb; cases hb; exact ⟨p, ha, h1, h2, h3, h4⟩
    · rw [upM_ne _ _ e] at hb; exact ⟨r, hb, rfl, rfl, rfl, fun i _ => rfl⟩
theorem f_set (o : OR) (k : Nat) (v : Int) (i : Nat) : (o.fl.set k v)[i]?.getD 0 = if i = k ∧ k < o.fl.length then v else o.f i := by
  unfold OR.f
  rw [List.getElem?_set]
  by_cases e : k = i
  · subst e
    by_cases hl : k < o.fl.length
    · rw [if_pos rfl, if_pos hl, if_pos ⟨rfl, hl⟩]; rfl
    · rw [if_pos rfl, if_neg hl, if_neg (fun h => hl h.2), List.getElem?_eq_none (by omega)]
  · rw [if_neg e, if_neg (fun h => e h.1.symm)]
theorem up_get {m : Mp} {a : Int} {P : OR} {d : Int} {q : OR} (hq : upM m a P d = some q) : (d = a ∧ q = P) ∨ (d ≠ a ∧ m d = some q) := by
  by_cases e : d = a
  · rw [e, upM_self] at hq; cases hq; exact .inl ⟨e, rfl⟩
  · rw [upM_ne _ _ e] at hq; exact .inr ⟨e, hq⟩
theorem up_some {m : Mp} {a b : Int} {P q : OR} (h : m b = some q) : ∃ q', upM m a P b = some q' := by
  by_cases e : b = a
  · exact ⟨_, by rw [e]; exact upM_self _ _ _⟩
  · exact ⟨q, by rw [upM_ne _ _ e]; exact h⟩
section
variable {c : CF} {ws : List Int} {y y' : Bp.Sp} {o o' : Ma.MS} {mv : Bool} {scan cop : Int} {r : Re.RS} {row : List Int} {m m' : Mp} {R : Nat → Prop} {N : Nat} {ex : Int} {X : Int → Prop}
theorem Rf.mono {v : Int} (h : Rf c y m v) (hm : ∀ q, m v = some q → ∃ q', m' v = some q') (hT : inT y v → inT y' v) (hF : inF y v → inF y' v) : Rf c y' m' v := by
  rcases h with h | ⟨q, h1, h2⟩ | h
  · exact .inl h
  · obtain ⟨q', h'⟩ := hm q h1
    exact .inr (.inl ⟨q', h', h2.imp hT hF⟩)
  · exact .inr (.inr h)
theorem Rf.small {v : Int} (g : Geo c ws y o mv scan cop m R N) (h : Rf c y m v) : 0 ≤ v ∧ v ≤ 1048576 := by
  have := g.words
  rcases h with h | ⟨q, h1, _⟩ | h
  · omega
  · have := g.rng h1; omega
  · omega
theorem Mn.keep (h : Mn c y mv scan cop r row m ex X) (k : KeepM m m') : Mn c y mv scan cop r row m' ex X := by
  refine ⟨h.rok, fun a q hq hw i hi => ?_, fun hm a q hq ht hs i hi => ?_, fun a q hq h0 hx i hi hf => ?_, fun a q hq h0 hx i hi hf => ?_, fun a q hq hn => ?_, h.rowm, h.rowl, h.idle⟩ <;> obtain ⟨p, hp, e1, e2, e3, e4⟩ := k.back a q hq
  · rw [e2] at hi
    rw [e4 i hi]
    exact (h.refs a p hp (e1 ▸ hw) i hi).mono (fun q hq => k.fwd _ q hq) id id
  · rw [e2] at hi; rw [e4 i hi]; exact h.scF hm a p hp ht hs i hi
  · rw [e2] at hi; rw [e4 i hi] at hf; rw [e3]; exact h.oldF a p hp h0 hx i hi hf
  · rw [e2] at hi; rw [e4 i hi] at hf; rw [e3]; exact h.oldT a p hp h0 hx i hi hf
  · rw [e3] at hn; exact h.ntd a p hp hn
theorem Mn.note {a : Int} {p : OR} (h : Mn c y mv scan cop r row m ex X) (hc : CFok c) (ha : m a = some p) (h0 : c.mat ≤ a) (h1 : a < c.words) : Mn c y mv scan cop (r.add a) row (upM m a { p with hd := { p.hd with noted := true } }) ex X := by
  obtain ⟨n1, n2⟩ := now_add h.rok hc h0 h1
  have t1 := then_add h.rok a
  have ok := (h.rok.add a).1
  refine ⟨ok, fun b q hq hw i hi => ?_, fun hm b q hq ht hs i hi => ?_, fun b q hq h0 hx i hi hf => ?_, fun b q hq h0 hx i hi hf => ?_, fun b q hq hn => ?_, h.rowm, h.rowl, (fun hh => by obtain ⟨i1, i2⟩ := h.idle hh; refine ⟨i1, ?_⟩; unfold Re.RS.left at i2 ⊢; rw [(h.rok.add a).2.1, (h.rok.add a).2.2]; exact i2)⟩ <;> rcases up_get hq with ⟨e1, e2⟩ | ⟨e1, hq⟩
  · rw [e2] at hi hw ⊢
    exact (h.refs a p ha (e1 ▸ hw) i hi).mono (fun q' hq' => up_some hq') id id
  · exact (h.refs b q hq hw i hi).mono (fun q' hq' => up_some hq') id id
  · rw [e2] at hi ⊢; rw [e1] at ht hs; exact h.scF hm a p ha ht hs i hi
  · exact h.scF hm b q hq ht hs i hi
  · rw [e2] at hi hf; rw [e1] at h0 hx
    rcases h.oldF a p ha h0 hx i hi hf with e | ⟨_, e⟩
    · exact .inl (e1 ▸ e)
    · rw [e1, e2]; exact .inr ⟨rfl, e.imp_left (t1 a).2⟩
  · exact (h.oldF b q hq h0 hx i hi hf).imp_right fun ⟨e, e'⟩ => ⟨e, e'.imp_left (t1 b).2⟩
  · rw [e1, e2]; exact .inr ⟨rfl, .inl n1⟩
  · exact (h.oldT b q hq h0 hx i hi hf).imp_right fun ⟨e, e'⟩ => ⟨e, e'.imp (n2 b) fun e' => e'.imp_left (t1 b).2⟩
  · rw [e1]; exact ⟨by omega, .inl n1⟩
  · obtain ⟨e, e'⟩ := h.ntd b q hq hn
    exact ⟨e, e'.imp (n2 b) fun e' => e'.imp_left (t1 b).2⟩
end
end Go.Proofs.YtihmkkjmnbehbaaGreat.Wh
/- The same, for each bit of work. No condition. -/
set_option linter.unusedVariables false
set_option linter.unusedSimpArgs false
namespace Go.Proofs.YtihmkkjmnbehbaaGreat.Wh
open Go.RowKit Go.Proofs.YtihmkkjmnbehbaaGreat.W
section
variable {c : CF} {ws : List Int} {y y' : Bp.Sp} {o o' : Ma.MS} {mv : Bool} {scan cop : Int} {r : Re.RS} {row : List Int} {m m' : Mp} {R : Nat → Prop} {N : Nat} {ex : Int} {X : Int → Prop}
/-- One object may be left out for a while. -/
theorem Mn.open_ (h : Mn c y mv scan cop r row m 0 X) (hc : CFok c) (a : Int) : Mn c y mv scan cop r row m a X := by
  have ne : ∀ {b : Int}, c.mat ≤ b → b ≠ 0 := fun h0 => by have := hc.n0; unfold CF.mat at h0; omega
  exact ⟨h.rok, h.refs, h.scF, fun b q hq h0 _ => h.oldF b q hq h0 (ne h0), fun b q hq h0 _ => h.oldT b q hq h0 (ne h0), h.ntd, h.rowm, h.rowl, h.idle⟩
theorem Mn.close {a : Int} {p : OR} (h : Mn c y mv scan cop r row m a X) (ha : m a = some p) (hF : ∀ i : Nat, (i : Int) < p.hd.ptrs → ¬ inF y (p.f i)) (hT : c.mat ≤ a → (∃ i : Nat, (i : Int) < p.hd.ptrs ∧ inT y (p.f i)) → p.hd.noted = true) : Mn c y mv scan cop r row m 0 X := by
  refine ⟨h.rok, h.refs, h.scF, fun b q hq h0 _ i hi hf => ?_, fun b q hq h0 _ i hi hf => ?_, h.ntd, h.rowm, h.rowl, h.idle⟩ <;> by_cases e : b = a
  · subst e; rw [ha] at hq; cases hq; exact (hF i hi hf).elim
  · exact h.oldF b q hq h0 e i hi hf
  · subst e; rw [ha] at hq; cases hq
    have hn := hT h0 ⟨i, hi, hf⟩
    exact .inr ⟨hn, (h.ntd b p ha hn).2⟩
  · exact h.oldT b q hq h0 e i hi hf
theorem Mn.unnote {a : Int} {p : OR} {X' : Int → Prop} (h : Mn c y mv scan cop r row m a X) (ha : m a = some p) (hX : ∀ z, z ≠ a → X z → X' z) : Mn c y mv scan cop r row (upM m a { p with hd := { p.hd with noted := false } }) a X' := by
  refine ⟨h.rok, fun b q hq hw i hi => ?_, fun hm b q hq ht hs i hi => ?_, fun b q hq h0 hx i hi hf => ?_, fun b q hq h0 hx i hi hf => ?_, fun b q hq hn => ?_, h.rowm, h.rowl, h.idle⟩ <;> rcases up_get hq with ⟨e1, e2⟩ | ⟨e1, hq⟩
  · rw [e2] at hi hw ⊢
    exact (h.refs a p ha (e1 ▸ hw) i hi).mono (fun q' hq' => up_some hq') id id
  · exact (h.refs b q hq hw i hi).mono (fun q' hq' => up_some hq') id id
  · rw [e2] at hi ⊢; rw [e1] at ht hs; exact h.scF hm a p ha ht hs i hi
  · exact h.scF hm b q hq ht hs i hi
  · exact (hx e1).elim
  · exact (h.oldF b q hq h0 hx i hi hf).imp_right fun ⟨e, e'⟩ => ⟨e, e'.imp_right (hX b e1)⟩
  · exact (hx e1).elim
  · exact (h.oldT b q hq h0 hx i hi hf).imp_right fun ⟨e, e'⟩ => ⟨e, e'.imp_right fun e' => e'.imp_right (hX b e1)⟩
  · rw [e2] at hn; cases hn
  · obtain ⟨e, e'⟩ := h.ntd b q hq hn
    exact ⟨e, e'.imp_right fun e' => e'.imp_right (hX b e1)⟩
/-- A reference of one that is left out, or young, is another one. -/
theorem Mn.fld {a : Int} {p : OR} (h : Mn c y mv scan cop r row m ex X) (ha : m a = some p) (k : Nat) (v : Int) (hv : Rf c y m v) (hx : c.mat ≤ a → a = ex) (hs : mv = true → inT y a → a < scan → ¬ inF y v) : Mn c y mv scan cop r row (upM m a { p with fl := p.fl.set k v }) ex X := by
  have fs := f_set p k v
  refine ⟨h.rok, fun b q hq hw i hi => ?_, fun hm b q hq ht hs' i hi => ?_, fun b q hq h0 hx' i hi hf => ?_, fun b q hq h0 hx' i hi hf => ?_, fun b q hq hn => ?_, h.rowm, h.rowl, h.idle⟩ <;> rcases up_get hq with ⟨e1, e2⟩ | ⟨e1, hq⟩
  · rw [e2] at hi hw ⊢
    show Rf c y _ ((p.fl.set k v)[i]?.getD 0)
    rw [fs]
    split
    · exact hv.mono (fun q' hq' => up_some hq') id id
    · exact (h.refs a p ha (e1 ▸ hw) i hi).mono (fun q' hq' => up_some hq') id id
  · exact (h.refs b q hq hw i hi).mono (fun q' hq' => up_some hq') id id
  · rw [e2] at hi ⊢; rw [e1] at ht hs'
    show ¬ inF y ((p.fl.set k v)[i]?.getD 0)
    rw [fs]
    split
    · exact hs hm ht hs'
    · exact h.scF hm a p ha ht hs' i hi
  · exact h.scF hm b q hq ht hs' i hi
  · exact (hx' (e1 ▸ hx (e1 ▸ h0))).elim
  · exact h.oldF b q hq h0 hx' i hi hf
  · exact (hx' (e1 ▸ hx (e1 ▸ h0))).elim
  · exact h.oldT b q hq h0 hx' i hi hf
  · rw [e2] at hn; rw [e1]; exact h.ntd a p ha hn
  · exact h.ntd b q hq hn
theorem Geo.sc (g : Geo c ws y o mv scan cop m R N) (hm : mv = true) : y.here ≤ scan ∧ scan ≤ y.here + y.used := by
  obtain ⟨h1, L, hL⟩ := g.sch hm
  exact ⟨h1, (hL.bound g.rep).1⟩
theorem Rf.notT {v : Int} (g : Geo c ws y o mv scan cop m R N) (h : Rf c y m v) (hh : y'.here = y.here) (hu : y'.used ≤ c.n) (ht : inT y' v) : inT y v := by
  have y0 := g.y0; have y1 := g.y1; have y2 := g.y2
  rcases h with h | ⟨q, h1, h2 | h2⟩ | h
  · unfold inT at ht; omega
  · exact h2
  · unfold inF at h2; unfold inT at ht; omega
  · unfold CF.mat at h; unfold inT at ht; omega
theorem Mn.move {a b : Int} {p : OR} {k : Hd} (h : Mn c y mv scan cop r row m ex X) (g : Geo c ws y o mv scan cop m R N) (hm : mv = true) (hp : m a = some p) (hf : inF y a) (hw : p.way = a) (kp : k.ptrs = p.hd.ptrs) (kn : k.noted = p.hd.noted) (i : Into c y o b p.n k.old y' o') :
    Mn c y' mv scan (cop + p.n) r (if k.old then row ++ [b] else row) (mvM m a b p k) ex X := by
  have n2 := (g.rep.at_ a p hp).n2
  obtain ⟨ap, b0, b1, bo, bf⟩ := i.apart g (by omega)
  have nb := g.rep.free (by omega) ap
  have nab : b ≠ a := by rintro rfl; rw [nb] at hp; cases hp
  have al := g.low (.inr hf)
  have pn : p.hd.noted = false := by
    cases hn : p.hd.noted with
    | false => rfl
    | true => have := (h.ntd a p hp hn).1; omega
  have iF : ∀ z, inF y' z ↔ inF y z := fun z => by unfold inF; rw [i.there, i.left]
  have iT : ∀ z, inT y z → inT y' z := fun z hz => by
    unfold inT at hz ⊢; rw [i.here]; rcases i.at_ with ⟨_, e, _⟩ | ⟨_, _, e, _⟩ <;> omega
  have use : y'.used ≤ c.n := by have := g.y1; rcases i.at_ with ⟨_, e, _⟩ | ⟨_, _, e, _⟩ <;> omega
  have fwd : ∀ v q, m v = some q → ∃ q', mvM m a b p k v = some q' := fun v q hq => up_some (up_some hq).choose_spec
  have rfm : ∀ v, Rf c y m v → Rf c y' (mvM m a b p k) v := fun v hv => hv.mono (fun q hq => fwd v q hq) (iT v) (iF v).2
  have sub : ∀ x ∈ row, x ∈ (if k.old then row ++ [b] else row) := fun x hx => by split; exact List.mem_append_left _ hx; exact hx
  obtain ⟨s1, s2⟩ := g.sc hm
  refine ⟨h.rok, fun d q hq hw' j hj => ?_, fun _ d q hq ht hs j hj => ?_, fun d q hq h0 hx j hj hf' => ?_, fun d q hq h0 hx j hj hf' => ?_, fun d q hq hn => ?_, fun x hx => ?_, fun _ => ?_, (fun hh => by rw [hm] at hh; cases hh)⟩
  · rcases mv_get hq with ⟨rfl, rfl⟩ | ⟨rfl, _, rfl⟩ | ⟨_, _, hq⟩
    · exact rfm _ (h.refs _ p hp hw j hj)
    · exact rfm _ (h.refs _ p hp hw j (by rw [← kp]; exact hj))
    · exact rfm _ (h.refs d q hq hw' j hj)
  · rw [iF]
    rcases mv_get hq with ⟨rfl, rfl⟩ | ⟨rfl, _, rfl⟩ | ⟨_, _, hq⟩
    · have := g.y0; have := g.y1; have := g.y2
      unfold inF at hf; unfold inT at ht; rw [i.here] at ht; omega
    · rcases i.at_ with ⟨e, _⟩ | ⟨_, e, _⟩
      · have hb := bo.1 e; have := g.y0; have := g.y1; unfold CF.mat at hb; omega
      · omega
    · exact h.scF hm d q hq (by unfold inT at ht ⊢; rw [i.here] at ht; omega) hs j hj
  · rw [iF] at hf'
    rcases mv_get hq with ⟨rfl, rfl⟩ | ⟨rfl, _, rfl⟩ | ⟨_, _, hq⟩
    · omega
    · rw [if_pos (bo.2 h0)]; exact .inl (by simp)
    · exact (h.oldF d q hq h0 hx j hj hf').imp_left (sub d)
  · rcases mv_get hq with ⟨rfl, rfl⟩ | ⟨rfl, _, rfl⟩ | ⟨_, _, hq⟩
    · omega
    · rw [if_pos (bo.2 h0)]; exact .inl (by simp)
    · have wd : q.way = d := g.here hq (fun hh => by have := g.low (.inr hh); omega)
      exact (h.oldT d q hq h0 hx j hj ((h.refs d q hq wd j hj).notT g i.here use hf')).imp_left (sub d)
  · rcases mv_get hq with ⟨rfl, rfl⟩ | ⟨rfl, _, rfl⟩ | ⟨_, _, hq⟩
    · simp only [pn] at hn; cases hn
    · simp only [kn, pn] at hn; cases hn
    · exact h.ntd d q hq hn
  · split at hx
    · rename_i ho
      rcases List.mem_append.1 hx with hx | hx
      · exact h.rowm x hx
      · rw [List.mem_singleton] at hx; rw [hx]; exact ⟨bo.1 ho, by have := g.words; omega⟩
    · exact h.rowm x hx
  · have := h.rowl hm
    split
    · rw [List.length_append]; simp only [List.length_singleton]; omega
    · omega
theorem Mn.make {b : Int} {P : OR} (h : Mn c y mv scan cop r row m ex X) (g : Geo c ws y o mv scan cop m R N) (hb : b = y.here + y.used) (hn : m b = none) (hP : P.hd.noted = false) (hf : ∀ i, P.f i = 0) (e1 : y'.here = y.here) (e2 : y'.there = y.there) (e3 : y'.left = y.left) (e4 : y.used ≤ y'.used ∧ y'.used ≤ c.n) : Mn c y' mv scan cop r row (upM m b P) ex X := by
  have iF : ∀ z, inF y' z ↔ inF y z := fun z => by unfold inF; rw [e2, e3]
  have iT : ∀ z, inT y z → inT y' z := fun z hz => by unfold inT at hz ⊢; rw [e1]; omega
  have rfm : ∀ v, Rf c y m v → Rf c y' (upM m b P) v := fun v hv => hv.mono (fun q hq => up_some hq) (iT v) (iF v).2
  have y0 := g.y0; have y1 := g.y1; have y2 := g.y2
  have nz : ∀ {v : Int}, v = 0 → ¬ inF y' v ∧ ¬ inT y' v := fun {v} hv => by unfold inF inT; omega
  refine ⟨h.rok, fun d q hq hw' j hj => ?_, fun hm d q hq ht hs j hj => ?_, fun d q hq h0 hx j hj hf' => ?_, fun d q hq h0 hx j hj hf' => ?_, fun d q hq hn => ?_, h.rowm, h.rowl, h.idle⟩ <;> rcases up_get hq with ⟨a1, a2⟩ | ⟨a1, hq⟩
  · rw [a2, hf]; exact .inl rfl
  · exact rfm _ (h.refs d q hq hw' j hj)
  · rw [a2]; exact (nz (hf j)).1
  · rw [iF]
    have := g.sc hm
    exact h.scF hm d q hq (by unfold inT at ht ⊢; rw [e1] at ht; omega) hs j hj
  · rw [a2] at hf'; exact ((nz (hf j)).1 hf').elim
  · exact h.oldF d q hq h0 hx j hj ((iF _).1 hf')
  · rw [a2] at hf'; exact ((nz (hf j)).2 hf').elim
  · have wd : q.way = d := g.here hq (fun hh => by have := g.low (.inr hh); omega)
    exact h.oldT d q hq h0 hx j hj ((h.refs d q hq wd j hj).notT g e1 e4.2 hf')
  · rw [a2, hP] at hn; cases hn
  · exact h.ntd d q hq hn
theorem Mn.flip (h : Mn c y false scan cop r row m 0 (fun _ => False)) (g : Geo c ws y o false scan cop m R N) : Mn c y.flip true y.flip.here 0 r.flip [] m 0 (fun _ => False) := by
  have hl := g.nmv rfl
  obtain ⟨e1, e2, e3, e4, e5⟩ := flip_y (y := y) (by omega)
  generalize y.flip = y' at *
  obtain ⟨i1, i2⟩ := h.idle rfl
  obtain ⟨f1, f2, f3⟩ := flip_r h.rok g.cf i2
  have iF : ∀ z, inF y' z ↔ inT y z := fun z => by unfold inF inT; rw [e2, e4]
  have nT : ∀ z, ¬ inT y' z := fun z hz => by unfold inT at hz; omega
  have nF : ∀ z, ¬ inF y z := fun z hz => by unfold inF at hz; omega
  have t0 := then_0 i2
  refine ⟨f1, fun d q hq hw' j hj => ?_, fun _ d q hq ht => (nT _ ht).elim, fun d q hq h0 hx j hj hf' => ?_, fun d q hq h0 hx j hj hf' => (nT _ hf').elim, fun d q hq hn => ?_, (fun x hx => by cases hx), fun _ => by simp, (fun hh => by cases hh)⟩
  · rcases h.refs d q hq hw' j hj with e | ⟨q', h1, h2⟩ | e
    · exact .inl e
    · exact .inr (.inl ⟨q', h1, .inr ((iF _).2 (h2.resolve_right (nF _)))⟩)
    · exact .inr (.inr e)
  · rcases h.oldT d q hq h0 hx j hj ((iF _).1 hf') with e | ⟨e, e' | e' | e'⟩
    · rw [i1] at e; cases e
    · exact .inr ⟨e, .inl ((f2 d).2 e')⟩
    · exact (t0 _ e').elim
    · exact e'.elim
  · obtain ⟨e, e' | e' | e'⟩ := h.ntd d q hq hn
    · exact ⟨e, .inr (.inl ((f2 d).2 e'))⟩
    · exact (t0 _ e').elim
    · exact e'.elim
/-- At the end nothing refers to the half that is emptied. -/
theorem Mn.noF (h : Mn c y mv scan cop r [] m 0 (fun _ => False)) (g : Geo c ws y o mv scan cop m R N) (hm : mv = true) (hs : y.here + y.used ≤ scan) (hr : r.left ≤ 0) {a : Int} {p : OR} (hp : m a = some p) (ha : ¬ inF y a) (i : Nat) (hi : (i : Int) < p.hd.ptrs) : ¬ inF y (p.f i) := by
  rcases g.cls hp with h1 | h1 | ⟨h1, h2⟩
  · exact h.scF hm a p hp h1 (by unfold inT at h1; omega) i hi
  · exact (ha h1).elim
  · intro hf
    rcases h.oldF a p hp h1 (by have := g.words; omega) i hi hf with e | ⟨_, e | e⟩
    · cases e
    · exact then_0 hr _ e
    · exact e
theorem Mn.drop (h : Mn c y mv scan cop r [] m 0 (fun _ => False)) (g : Geo c ws y o mv scan cop m R N) (hm : mv = true) (hs : y.here + y.used ≤ scan) (hr : r.left ≤ 0) : Mn c y.drop false scan 0 r [] (dropM m y) 0 (fun _ => False) := by
  have nF' := fun {a p} => h.noF g hm hs hr (a := a) (p := p)
  obtain ⟨e1, e2, e3, e4, e5⟩ := drop_y y
  generalize y.drop = y' at *
  have iT : ∀ z, inT y' z ↔ inT y z := fun z => by unfold inT; rw [e1, e3]
  have nF : ∀ z, ¬ inF y' z := fun z hz => by unfold inF at hz; omega
  refine ⟨h.rok, fun d q hq hw' j hj => ?_, (fun hh => by cases hh), fun d q hq h0 hx j hj hf' => (nF _ hf').elim, fun d q hq h0 hx j hj hf' => ?_, fun d q hq hn => ?_, (fun x hx => by cases hx), (fun hh => by cases hh), fun _ => ⟨rfl, hr⟩⟩ <;> obtain ⟨hq, hF⟩ := drop_get.1 hq
  · have := nF' hq hF j hj
    rcases h.refs d q hq hw' j hj with e | ⟨q', h1, h2⟩ | e
    · exact .inl e
    · exact .inr (.inl ⟨q', drop_get.2 ⟨h1, this⟩, .inl ((iT _).2 (h2.resolve_right this))⟩)
    · exact .inr (.inr e)
  · exact h.oldT d q hq h0 hx j hj ((iT _).1 hf')
  · exact h.ntd d q hq hn
theorem Mn.give {a : Int} (h : Mn c y mv scan cop r row m ex X) (g : Geo c ws y o mv scan cop m R N) (ha : c.mat ≤ a) : Mn c y mv scan cop r row (delM m a) ex X := by
  refine ⟨h.rok, fun d q hq hw' j hj => ?_, fun hm d q hq => h.scF hm d q (del_get.1 hq).1, fun d q hq => h.oldF d q (del_get.1 hq).1, fun d q hq => h.oldT d q (del_get.1 hq).1, fun d q hq => h.ntd d q (del_get.1 hq).1, h.rowm, h.rowl, h.idle⟩
  rcases h.refs d q (del_get.1 hq).1 hw' j hj with e | ⟨q', h1, h2⟩ | e
  · exact .inl e
  · exact .inr (.inl ⟨q', del_get.2 ⟨h1, fun e => by have := g.low h2; omega⟩, h2⟩)
  · exact .inr (.inr e)
/-- The next one has been looked through. -/
theorem Mn.scanned {p : OR} (h : Mn c y mv scan cop r row m ex X) (g : Geo c ws y o mv scan cop m R N) (hp : m scan = some p) (hF : ∀ i : Nat, (i : Int) < p.hd.ptrs → ¬ inF y (p.f i)) : Mn c y mv (scan + p.n) cop r row m ex X := by
  refine ⟨h.rok, h.refs, fun hm d q hq ht hs i hi => ?_, h.oldF, h.oldT, h.ntd, h.rowm, h.rowl, h.idle⟩
  by_cases e : d = scan
  · subst e; rw [hp] at hq; cases hq; exact hF i hi
  · by_cases e2 : d < scan
    · exact h.scF hm d q hq ht e2 i hi
    · have := g.rep.apart scan d p q hp hq (by omega); omega
theorem Mn.pop {a : Int} (h : Mn c y mv scan cop r (a :: row) m 0 X) (hc : CFok c) : Mn c y mv scan cop r row m a X := by
  have h' := h.open_ hc a
  have tl : ∀ {d : Int}, d ≠ a → d ∈ a :: row → d ∈ row := fun hd hm => (List.mem_cons.1 hm).resolve_left hd
  exact ⟨h.rok, h.refs, h.scF, fun d q hq h0 hx i hi hf => (h'.oldF d q hq h0 hx i hi hf).imp_left (tl hx), fun d q hq h0 hx i hi hf => (h'.oldT d q hq h0 hx i hi hf).imp_left (tl hx), h.ntd, fun x hx => h.rowm x (List.mem_cons_of_mem _ hx), fun hm => by have := h.rowl hm; simp only [List.length_cons] at this; omega, fun hm => by have := (h.idle hm).1; cases this⟩
/-- What is to be looked at, one by one. -/
theorem Mn.next {r' : Re.RS} {X' : Int → Prop} (h : Mn c y mv scan cop r row m ex X) (hm : mv = true) (ok : ROk c r') (hn : ∀ x, inNow r x → inNow r' x) (ht : ∀ a p, m a = some p → c.mat ≤ a → inThen r a ∨ X a → inThen r' a ∨ X' a) : Mn c y mv scan cop r' row m ex X' := by
  refine ⟨ok, h.refs, h.scF, fun d q hq h0 hx i hi hf => (h.oldF d q hq h0 hx i hi hf).imp_right fun ⟨e, e'⟩ => ⟨e, ht d q hq h0 e'⟩, fun d q hq h0 hx i hi hf => (h.oldT d q hq h0 hx i hi hf).imp_right fun ⟨e, e'⟩ => ⟨e, e'.imp (hn d) (ht d q hq h0)⟩, fun d q hq hd => ?_, h.rowm, h.rowl, (fun hh => by rw [hm] at hh; cases hh)⟩
  obtain ⟨e, e'⟩ := h.ntd d q hq hd
  exact ⟨e, e'.imp (hn d) (ht d q hq e)⟩
end
end Go.Proofs.YtihmkkjmnbehbaaGreat.Wh
