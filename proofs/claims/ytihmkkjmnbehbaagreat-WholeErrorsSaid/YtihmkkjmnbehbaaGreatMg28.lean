/- Texts of the whole heap, joined: WqH WqI. No condition beside those that each lemma names. -/
import Derived.Test.YtihmkkjmnbehbaaGreatMg27
/- What has been found by the major cycle, and what is to be swept. No condition. -/
set_option linter.unusedVariables false
set_option linter.unusedSimpArgs false
namespace Go.Proofs.YtihmkkjmnbehbaaGreat.Wh
open Go.RowKit Go.Proofs.YtihmkkjmnbehbaaGreat.W
/-- What a node stands for has been found. -/
def Mkd (m : Mp) (par : Int) (k : Nat) : Prop := ∃ b q, m b = some q ∧ q.id = k ∧ q.way = b ∧ q.hd.par = par
structure Mk (c : CF) (o : Ma.MS) (m : Mp) (R : Nat → Prop) (par ph look gm : Int) (gl : List Int) (gz : Bool) (P : Int → Prop) (ex : Int) (en : Nat) (Z : Int → Prop) : Prop where
  p01 : par = 0 ∨ par = 1
  ph3 : ph = 0 ∨ ph = 1 ∨ ph = 2
  lk : -1 ≤ look ∧ look ≤ 64
  gms : gm = c.s
  gll : (gl.length : Int) ≤ gm
  grey : ∀ a p, m a = some p → p.way = a → p.hd.grey = true → ph = 1 ∧ R p.id ∧ ((∃ s, s ∈ gl ∧ ∃ q, m s = some q ∧ q.id = p.id) ∨ gz = true ∨ P a)
  blk : ph = 1 → ∀ a p, m a = some p → p.way = a → R p.id → p.hd.par = par → p.hd.grey = false → ∀ i : Nat, (i : Int) < p.hd.ptrs → (a = ex → i < en) → ∀ q, m (p.f i) = some q → Mkd m par q.id
  oth : ph ≠ 1 → gl = [] ∧ gz = false
  cur : ph ≠ 1 → ∀ a p, m a = some p → p.way = a → R p.id → p.hd.par = par
  glR : ∀ s, s ∈ gl → ∃ q, m s = some q ∧ R q.id
  idl : ph = 0 → ∀ a p, m a = some p → c.mat ≤ a → p.hd.par = par
  swp : ph = 2 → ∀ a p, m a = some p → c.mat ≤ a → p.hd.par = par ∨ Ma.pendAt o a ∨ Z a
/-- What handles hold has been found. -/
def TbM (m : Mp) (par ph : Int) (tb : List Int) : Prop := ph = 1 → ∀ x, x ∈ tb → ∀ q, m x = some q → Mkd m par q.id
section
variable {c : CF} {ws : List Int} {y y' : Bp.Sp} {o o' : Ma.MS} {mv : Bool} {scan cop : Int} {m m' : Mp} {N : Nat} {R R' : Nat → Prop} {par ph look gm : Int} {gl : List Int} {gz : Bool} {P : Int → Prop} {ex : Int} {en : Nat} {Z : Int → Prop}
/-- What matters here stays. -/
structure KeepK (m m' : Mp) (R : Nat → Prop) (par ph : Int) : Prop where
  fwd : ∀ a p, m a = some p → ∃ q, m' a = some q ∧ q.id = p.id ∧ q.way = p.way ∧ q.hd.par = p.hd.par
  back : ∀ a q, m' a = some q → ∃ p, m a = some p ∧ q.way = p.way ∧ q.id = p.id ∧ q.hd.ptrs = p.hd.ptrs ∧ q.hd.par = p.hd.par ∧ q.hd.grey = p.hd.grey ∧
    (R p.id → ∀ i : Nat, (i : Int) < p.hd.ptrs → ∀ r, m' (q.f i) = some r → (∃ r0, m (p.f i) = some r0 ∧ r0.id = r.id) ∨ (ph = 1 → Mkd m par r.id))
theorem Mkd.keep (k : KeepK m m' R par ph) {i : Nat} (h : Mkd m par i) : Mkd m' par i := by
  obtain ⟨b, q, h1, h2, h3, h4⟩ := h
  obtain ⟨q', e1, e2, e3, e4⟩ := k.fwd b q h1
  exact ⟨b, q', e1, e2.trans h2, e3.trans h3, e4.trans h4⟩
theorem Mk.keep (h : Mk c o m R par ph look gm gl gz P ex en Z) (k : KeepK m m' R par ph) : Mk c o m' R par ph look gm gl gz P ex en Z := by
  refine ⟨h.p01, h.ph3, h.lk, h.gms, h.gll, fun a q hq hw hg => ?_, fun h1 a q hq hw hR hp hg i hi he r hr => ?_, h.oth, fun h1 a q hq hw hR => ?_, fun s hs => ?_, fun h1 a q hq h0 => ?_, fun h1 a q hq h0 => ?_⟩
  · obtain ⟨p, hp, e1, e2, e3, e4, e5, e6⟩ := k.back a q hq
    obtain ⟨g1, g2, g3⟩ := h.grey a p hp (e1 ▸ hw) (e5 ▸ hg)
    refine ⟨g1, e2 ▸ g2, g3.imp_left ?_⟩
    rintro ⟨s, s1, t, s2, s3⟩
    obtain ⟨t', t1, t2, _⟩ := k.fwd s t s2
    exact ⟨s, s1, t', t1, by rw [t2, s3, e2]⟩
  · obtain ⟨p, hp', e1, e2, e3, e4, e5, e6⟩ := k.back a q hq
    rw [e3] at hi
    rcases e6 (e2 ▸ hR) i hi r hr with ⟨r0, h2, h3⟩ | h2
    · rw [← h3]
      exact (h.blk h1 a p hp' (e1 ▸ hw) (e2 ▸ hR) (e4 ▸ hp) (e5 ▸ hg) i hi he r0 h2).keep k
    · exact (h2 h1).keep k
  · obtain ⟨p, hp', e1, e2, e3, e4, e5, e6⟩ := k.back a q hq
    rw [e4]; exact h.cur h1 a p hp' (e1 ▸ hw) (e2 ▸ hR)
  · obtain ⟨q, h1, h2⟩ := h.glR s hs
    obtain ⟨q', e1, e2, _⟩ := k.fwd s q h1
    exact ⟨q', e1, e2 ▸ h2⟩
  · obtain ⟨p, hp', e1, e2, e3, e4, e5, e6⟩ := k.back a q hq
    rw [e4]; exact h.idl h1 a p hp' h0
  · obtain ⟨p, hp', e1, e2, e3, e4, e5, e6⟩ := k.back a q hq
    rw [e4]; exact h.swp h1 a p hp' h0
theorem TbM.keep {tb : List Int} (h : TbM m par ph tb) (k : KeepK m m' R par ph) : TbM m' par ph tb := fun h1 x hx q hq => by
  obtain ⟨p, hp, _, e2, _⟩ := k.back x q hq
  rw [e2]; exact (h h1 x hx p hp).keep k
theorem KeepK.up {a : Int} {p q : OR} (ha : m a = some p) (h1 : q.way = p.way) (h2 : q.id = p.id) (h3 : q.hd.ptrs = p.hd.ptrs) (h4 : q.hd.par = p.hd.par) (h5 : q.hd.grey = p.hd.grey)
    (h6 : R p.id → ∀ i : Nat, (i : Int) < p.hd.ptrs → q.f i = p.f i ∨ ∀ r, m (q.f i) = some r → (∃ r0, m (p.f i) = some r0 ∧ r0.id = r.id) ∨ (ph = 1 → Mkd m par r.id)) : KeepK m (upM m a q) R par ph := by
  have tgt : ∀ {v r}, upM m a q v = some r → ∃ r0, m v = some r0 ∧ r0.id = r.id := fun {v r} hr => by
    rcases up_get hr with ⟨e1, e2⟩ | ⟨_, hr⟩
    · exact ⟨p, e1 ▸ ha, by rw [e2, h2]⟩
    · exact ⟨r, hr, rfl⟩
  refine ⟨fun b r hb => ?_, fun b r hb => ?_⟩
  · by_cases e : b = a
    · subst e; rw [ha] at hb; cases hb; exact ⟨q, upM_self _ _ _, h2, h1, h4⟩
    · exact ⟨r, by rw [upM_ne _ _ e]; exact hb, rfl, rfl, rfl⟩
  · rcases up_get hb with ⟨e1, e2⟩ | ⟨e1, hb⟩
    · rw [e1, e2]
      refine ⟨p, ha, h1, h2, h3, h4, h5, fun hR i hi t ht => ?_⟩
      obtain ⟨r0, t1, t2⟩ := tgt ht
      rcases h6 hR i hi with e | e
      · rw [e] at t1; exact .inl ⟨r0, t1, t2⟩
      · rw [← t2]; exact e r0 t1
    · exact ⟨r, hb, rfl, rfl, rfl, rfl, rfl, fun _ i hi t ht => .inl (tgt ht)⟩
/-- One is found. -/
theorem mark_mkd {b : Int} {p : OR} (hb : m b = some p) (hw : p.way = b) (hp : p.hd.par ≠ par) {i : Nat} (h : Mkd m par i) : Mkd (upM m b { p with hd := { p.hd with par := par, grey := true } }) par i := by
  obtain ⟨d, q, h1, h2, h3, h4⟩ := h
  refine ⟨d, q, ?_, h2, h3, h4⟩
  rw [upM_ne]; exact h1
  rintro rfl; rw [hb] at h1; cases h1; exact hp h4
theorem Mk.mark {b : Int} {p : OR} (h : Mk c o m R par ph look gm gl gz P ex en Z) (h1 : ph = 1) (hb : m b = some p) (hw : p.way = b) (hR : R p.id) (hp : p.hd.par ≠ par) :
    Mk c o (upM m b { p with hd := { p.hd with par := par, grey := true } }) R par ph look gm (Gy.putL gl gm b) (gz || decide (gm ≤ (gl.length : Int))) P ex en Z := by
  have mk := fun {i} (hi : Mkd m par i) => mark_mkd hb hw hp hi
  have tgt : ∀ {v r}, upM m b { p with hd := { p.hd with par := par, grey := true } } v = some r → ∃ r0, m v = some r0 ∧ r0.id = r.id := fun {v r} hr => by
    rcases up_get hr with ⟨e1, e2⟩ | ⟨_, hr⟩
    · exact ⟨p, e1 ▸ hb, by rw [e2]⟩
    · exact ⟨r, hr, rfl⟩
  have fwd : ∀ {v r0}, m v = some r0 → ∃ r, upM m b { p with hd := { p.hd with par := par, grey := true } } v = some r ∧ r.id = r0.id := fun {v r0} hr => by
    by_cases e : v = b
    · subst e; rw [hb] at hr; cases hr; exact ⟨_, upM_self _ _ _, rfl⟩
    · exact ⟨r0, by rw [upM_ne _ _ e]; exact hr, rfl⟩
  have cover : ∀ {d : OR}, (∃ s, s ∈ gl ∧ ∃ q, m s = some q ∧ q.id = d.id) → ∃ s, s ∈ Gy.putL gl gm b ∧ ∃ q, upM m b { p with hd := { p.hd with par := par, grey := true } } s = some q ∧ q.id = d.id := by
    rintro d ⟨s, s1, t, s2, s3⟩
    obtain ⟨t', t1, t2⟩ := fwd s2
    refine ⟨s, ?_, t', t1, t2.trans s3⟩
    unfold Gy.putL; split
    · exact List.mem_append_left _ s1
    · exact s1
  refine ⟨h.p01, h.ph3, h.lk, h.gms, ?_, fun a q hq hw' hg => ?_, fun _ a q hq hw' hR' hp' hg i hi he r hr => ?_, fun hh => (hh h1).elim, fun hh => (hh h1).elim, fun s hs => ?_, fun hh => by omega, fun hh => by omega⟩
  · unfold Gy.putL; split
    · rw [List.length_append]; simp only [List.length_singleton]; omega
    · exact h.gll
  · rcases up_get hq with ⟨e1, e2⟩ | ⟨e1, hq⟩
    · subst e2
      refine ⟨h1, hR, ?_⟩
      by_cases hl : (gl.length : Int) < gm
      · refine .inl ⟨b, by rw [Gy.putL_ok b hl]; simp, _, upM_self _ _ _, rfl⟩
      · right; left; rw [decide_eq_true (by omega)]; simp
    · obtain ⟨g1, g2, g3⟩ := h.grey a q hq hw' hg
      refine ⟨g1, g2, ?_⟩
      rcases g3 with g3 | g3 | g3
      · exact .inl (cover g3)
      · right; left; rw [g3]; rfl
      · exact .inr (.inr g3)
  · obtain ⟨r0, t1, t2⟩ := tgt hr
    rcases up_get hq with ⟨e1, e2⟩ | ⟨e1, hq⟩
    · rw [e2] at hg; cases hg
    · rw [← t2]; exact mk (h.blk h1 a q hq hw' hR' hp' hg i hi he r0 t1)
  · unfold Gy.putL at hs
    have : s ∈ gl ∨ s = b := by
      split at hs
      · rcases List.mem_append.1 hs with hs | hs
        · exact .inl hs
        · right; simpa using hs
      · exact .inl hs
    rcases this with hs | rfl
    · obtain ⟨q, q1, q2⟩ := h.glR s hs
      obtain ⟨q', t1, t2⟩ := fwd q1
      exact ⟨q', t1, t2 ▸ q2⟩
    · exact ⟨_, upM_self _ _ _, hR⟩
theorem TbM.mark {tb : List Int} {b : Int} {p : OR} (h : TbM m par ph tb) (hb : m b = some p) (hw : p.way = b) (hp : p.hd.par ≠ par) : TbM (upM m b { p with hd := { p.hd with par := par, grey := true } }) par ph tb := fun h1 x hx q hq => by
  rcases up_get hq with ⟨e1, e2⟩ | ⟨e1, hq⟩
  · rw [e2]; exact mark_mkd hb hw hp (h h1 x hx p (e1 ▸ hb))
  · exact mark_mkd hb hw hp (h h1 x hx q hq)
/-- One that was found is looked through from now on. -/
theorem Mk.ungrey {b : Int} {p : OR} (h : Mk c o m R par ph look gm gl gz P 0 0 Z) (h1 : ph = 1) (n0 : m 0 = none) (hb : m b = some p) {P' : Int → Prop} (hP : ∀ z, z ≠ b → P z → P' z) :
    Mk c o (upM m b { p with hd := { p.hd with grey := false } }) R par ph look gm gl gz P' b 0 Z := by
  have mk : ∀ {i}, Mkd m par i → Mkd (upM m b { p with hd := { p.hd with grey := false } }) par i := by
    rintro i ⟨d, q, h1, h2, h3, h4⟩
    by_cases e : d = b
    · subst e; rw [hb] at h1; cases h1; exact ⟨_, _, upM_self _ _ _, h2, h3, h4⟩
    · exact ⟨d, q, by rw [upM_ne _ _ e]; exact h1, h2, h3, h4⟩
  have tgt : ∀ {v r}, upM m b { p with hd := { p.hd with grey := false } } v = some r → ∃ r0, m v = some r0 ∧ r0.id = r.id := fun {v r} hr => by
    rcases up_get hr with ⟨e1, e2⟩ | ⟨_, hr⟩
    · exact ⟨p, e1 ▸ hb, by rw [e2]⟩
    · exact ⟨r, hr, rfl⟩
  have fwd : ∀ {v r0}, m v = some r0 → ∃ r, upM m b { p with hd := { p.hd with grey := false } } v = some r ∧ r.id = r0.id := fun {v r0} hr => by
    by_cases e : v = b
    · subst e; rw [hb] at hr; cases hr; exact ⟨_, upM_self _ _ _, rfl⟩
    · exact ⟨r0, by rw [upM_ne _ _ e]; exact hr, rfl⟩
  refine ⟨h.p01, h.ph3, h.lk, h.gms, h.gll, fun a q hq hw' hg => ?_, fun _ a q hq hw' hR' hp' hg i hi he r hr => ?_, fun hh => (hh h1).elim, fun hh => (hh h1).elim, fun s hs => ?_, fun hh => by omega, fun hh => by omega⟩
  · rcases up_get hq with ⟨e1, e2⟩ | ⟨e1, hq⟩
    · rw [e2] at hg; cases hg
    · obtain ⟨g1, g2, g3⟩ := h.grey a q hq hw' hg
      refine ⟨g1, g2, ?_⟩
      rcases g3 with ⟨s, s1, t, s2, s3⟩ | g3 | g3
      · obtain ⟨t', t1, t2⟩ := fwd s2
        exact .inl ⟨s, s1, t', t1, t2.trans s3⟩
      · exact .inr (.inl g3)
      · exact .inr (.inr (hP a e1 g3))
  · obtain ⟨r0, t1, t2⟩ := tgt hr
    rcases up_get hq with ⟨e1, e2⟩ | ⟨e1, hq⟩
    · have := he e1; omega
    · rw [← t2]; exact mk (h.blk h1 a q hq hw' hR' hp' hg i hi (fun e => by rw [e, n0] at hq; cases hq) r0 t1)
  · obtain ⟨q, q1, q2⟩ := h.glR s hs
    obtain ⟨q', t1, t2⟩ := fwd q1
    exact ⟨q', t1, t2 ▸ q2⟩
theorem Mk.next_ (h : Mk c o m R par ph look gm gl gz P ex en Z) {p : OR} (hp : m ex = some p) (hk : ∀ q, m (p.f en) = some q → Mkd m par q.id) : Mk c o m R par ph look gm gl gz P ex (en + 1) Z :=
  ⟨h.p01, h.ph3, h.lk, h.gms, h.gll, h.grey, fun h1 a q hq hw hR hp' hg i hi he r hr => by
    by_cases e : a = ex ∧ i = en
    · obtain ⟨e1, e2⟩ := e
      subst e1 e2
      rw [hp] at hq; cases hq
      exact hk r hr
    · exact h.blk h1 a q hq hw hR hp' hg i hi (fun e1 => by have := he e1; have : i ≠ en := fun e2 => e ⟨e1, e2⟩; omega) r hr, h.oth, h.cur, h.glR, h.idl, h.swp⟩
theorem Mk.shut (h : Mk c o m R par ph look gm gl gz P ex en Z) {p : OR} (hp : m ex = some p) (hn : p.hd.ptrs ≤ en) : Mk c o m R par ph look gm gl gz P 0 0 Z :=
  ⟨h.p01, h.ph3, h.lk, h.gms, h.gll, h.grey, fun h1 a q hq hw hR hp' hg i hi he r hr => h.blk h1 a q hq hw hR hp' hg i hi (fun e1 => by rw [e1, hp] at hq; cases hq; omega) r hr, h.oth, h.cur, h.glR, h.idl, h.swp⟩
/-- What is to be looked through still is told in another way. -/
theorem Mk.see (h : Mk c o m R par ph look gm gl gz P ex en Z) {P' : Int → Prop} (hP : ∀ a p, m a = some p → p.way = a → p.hd.grey = true → P a → gz = true ∨ P' a) : Mk c o m R par ph look gm gl gz P' ex en Z :=
  ⟨h.p01, h.ph3, h.lk, h.gms, h.gll, fun a p hp hw hg => by
    obtain ⟨g1, g2, g3⟩ := h.grey a p hp hw hg
    refine ⟨g1, g2, ?_⟩
    rcases g3 with g3 | g3 | g3
    · exact .inl g3
    · exact .inr (.inl g3)
    · exact .inr (hP a p hp hw hg g3), h.blk, h.oth, h.cur, h.glR, h.idl, h.swp⟩
theorem Mk.look_ (h : Mk c o m R par ph look gm gl gz P ex en Z) {l' : Int} (hl : -1 ≤ l' ∧ l' ≤ 64) : Mk c o m R par ph l' gm gl gz P ex en Z := ⟨h.p01, h.ph3, hl, h.gms, h.gll, h.grey, h.blk, h.oth, h.cur, h.glR, h.idl, h.swp⟩
/-- Lost ones are looked for. -/
theorem Mk.found (h : Mk c o m R par ph look gm gl gz P ex en Z) (h1 : ph = 1) {P' : Int → Prop} (hP : ∀ a p, m a = some p → P' a) : Mk c o m R par ph look gm gl false P' ex en Z :=
  ⟨h.p01, h.ph3, h.lk, h.gms, h.gll, fun a p hp hw hg => by
    obtain ⟨g1, g2, g3⟩ := h.grey a p hp hw hg
    exact ⟨g1, g2, .inr (.inr (hP a p hp))⟩, h.blk, fun hh => (hh h1).elim, h.cur, h.glR, h.idl, h.swp⟩
/-- The last one of the stack is taken. -/
theorem Mk.popped {x : Int} (h : Mk c o m R par ph look gm (gl ++ [x]) gz P ex en Z) (h1 : ph = 1) {P' : Int → Prop} (hP : ∀ a p, m a = some p → p.way = a → (P a ∨ ∃ q, m x = some q ∧ q.id = p.id) → P' a) : Mk c o m R par ph look gm gl gz P' ex en Z :=
  ⟨h.p01, h.ph3, h.lk, h.gms, by have := h.gll; rw [List.length_append] at this; simp only [List.length_singleton] at this; omega, fun a p hp hw hg => by
    obtain ⟨g1, g2, g3⟩ := h.grey a p hp hw hg
    refine ⟨g1, g2, ?_⟩
    rcases g3 with ⟨s, s1, s2⟩ | g3 | g3
    · rcases List.mem_append.1 s1 with s1 | s1
      · exact .inl ⟨s, s1, s2⟩
      · rw [List.mem_singleton] at s1; subst s1; exact .inr (.inr (hP a p hp hw (.inr s2)))
    · exact .inr (.inl g3)
    · exact .inr (.inr (hP a p hp hw (.inl g3))), h.blk, fun hh => (hh h1).elim, h.cur, fun s hs => h.glR s (List.mem_append_left _ hs), h.idl, h.swp⟩
end
end Go.Proofs.YtihmkkjmnbehbaaGreat.Wh
/- The same, when objects move, are made, are gone; how the major cycle begins, and ends. No condition. -/
set_option linter.unusedVariables false
set_option linter.unusedSimpArgs false
namespace Go.Proofs.YtihmkkjmnbehbaaGreat.Wh
open Go.RowKit Go.Proofs.YtihmkkjmnbehbaaGreat.W
section
variable {c : CF} {ws : List Int} {y y' : Bp.Sp} {o o' : Ma.MS} {mv : Bool} {scan cop : Int} {m m' : Mp} {N : Nat} {R R' : Nat → Prop} {par ph look gm : Int} {gl : List Int} {gz : Bool} {P : Int → Prop} {Z : Int → Prop} {tb : List Int} {G : Gr.GS}
/-- References of what is held are nowhere where there is no object. -/
theorem Sim.ne (h : Sim c m R tb G) {b : Int} (nb : m b = none) (b0 : b ≠ 0) : (∀ a p, m a = some p → R p.id → p.way = a → ∀ i : Nat, (i : Int) < p.hd.ptrs → p.f i ≠ b) ∧ ∀ x, x ∈ tb → x ≠ b := by
  have dn : ∀ {v q}, Den m R v q → v ≠ b := fun hd e => by
    rcases hd with ⟨e1, _⟩ | ⟨_, _, p, hp, _⟩
    · exact b0 (e ▸ e1)
    · rw [e, nb] at hp; cases hp
  refine ⟨fun a p hp hR hw i hi => ?_, fun x hx => ?_⟩
  · have k := h.node a p hp hR hw
    exact dn (k.refs i (by have := k.ptrs; omega))
  · obtain ⟨i, hi, e⟩ := List.getElem_of_mem hx
    have := h.tbD i hi
    rw [List.getElem?_eq_getElem hi, e] at this
    exact dn this
theorem Mk.move {a b : Int} {p : OR} {k : Hd} (h : Mk c o m R par ph look gm gl gz P 0 0 Z) (g : Geo c ws y o mv scan cop m R N) (s : Sim c m R tb G) (hp : m a = some p) (hf : inF y a) (hw : p.way = a) (kp : k.ptrs = p.hd.ptrs)
    (k1 : ph = 1 → k.par = p.hd.par ∧ k.grey = p.hd.grey) (k2 : ph ≠ 1 → k.par = par ∧ k.grey = false) (i : Into c y o b p.n k.old y' o') (hPa : P a → P b) : Mk c o' (mvM m a b p k) R par ph look gm gl gz P 0 0 Z := by
  have n2 := (g.rep.at_ a p hp).n2
  obtain ⟨ap, b0, b1, bo, bf⟩ := i.apart g (by omega)
  have nb := g.rep.free (by omega) ap
  have nab : b ≠ a := by rintro rfl; rw [nb] at hp; cases hp
  have al := g.low (.inr hf)
  obtain ⟨s1, s2⟩ := s.ne nb (by omega)
  have fwd : ∀ {v q}, m v = some q → ∃ q', mvM m a b p k v = some q' ∧ q'.id = q.id := fun hq => mv_id hp nb hq
  have tgt : ∀ {v r}, v ≠ b → mvM m a b p k v = some r → ∃ r0, m v = some r0 ∧ r0.id = r.id := fun {v r} hv hr => by
    rcases mv_get hr with ⟨rfl, rfl⟩ | ⟨rfl, _, rfl⟩ | ⟨_, _, hr⟩
    · exact ⟨p, hp, rfl⟩
    · exact (hv rfl).elim
    · exact ⟨r, hr, rfl⟩
  have mk : ∀ {j}, Mkd m par j → Mkd (mvM m a b p k) par j := by
    rintro j ⟨d, q, h1, h2, h3, h4⟩
    by_cases e : d = a
    · subst e; rw [hp] at h1; cases h1
      refine ⟨b, _, mv_b m p k nab, h2, rfl, ?_⟩
      by_cases e1 : ph = 1
      · exact (k1 e1).1.trans h4
      · exact (k2 e1).1
    · have e2 : d ≠ b := by rintro rfl; rw [nb] at h1; cases h1
      exact ⟨d, q, by rw [mv_c m p k e e2]; exact h1, h2, h3, h4⟩
  have n0 : ∀ {d q}, m d = some q → d ≠ 0 := fun hq e => by rw [e, g.nz] at hq; cases hq
  refine ⟨h.p01, h.ph3, h.lk, h.gms, h.gll, fun d q hq hw' hg => ?_, fun h1 d q hq hw' hR hp' hg j hj he r hr => ?_, h.oth, fun h1 d q hq hw' hR => ?_, fun z hz => ?_, fun h1 d q hq h0 => ?_, fun h1 d q hq h0 => ?_⟩
  · have cov : ∀ {e : OR}, ((∃ s, s ∈ gl ∧ ∃ q, m s = some q ∧ q.id = e.id) → ∃ s, s ∈ gl ∧ ∃ q, mvM m a b p k s = some q ∧ q.id = e.id) := by
      rintro e ⟨z, z1, t, z2, z3⟩
      obtain ⟨t', t1, t2⟩ := fwd z2
      exact ⟨z, z1, t', t1, t2.trans z3⟩
    rcases mv_get hq with ⟨rfl, rfl⟩ | ⟨rfl, _, rfl⟩ | ⟨_, _, hq⟩
    · exact (nab hw').elim
    · have e1 : ph = 1 := Classical.byContradiction fun hn => by simp only [(k2 hn).2] at hg; cases hg
      obtain ⟨g1, g2, g3⟩ := h.grey a p hp hw (by rw [← (k1 e1).2]; exact hg)
      refine ⟨g1, g2, ?_⟩
      rcases g3 with g3 | g3 | g3
      · exact .inl (cov g3)
      · exact .inr (.inl g3)
      · exact .inr (.inr (hPa g3))
    · obtain ⟨g1, g2, g3⟩ := h.grey d q hq hw' hg
      exact ⟨g1, g2, g3.imp_left cov⟩
  · rcases mv_get hq with ⟨rfl, rfl⟩ | ⟨rfl, _, rfl⟩ | ⟨_, _, hq⟩
    · exact (nab hw').elim
    · obtain ⟨r0, t1, t2⟩ := tgt (s1 a p hp hR hw j (by rw [← kp]; exact hj)) hr
      rw [← t2]
      exact mk (h.blk h1 a p hp hw hR (by rw [← (k1 h1).1]; exact hp') (by rw [← (k1 h1).2]; exact hg) j (by rw [← kp]; exact hj) (fun e => (n0 hp e).elim) r0 t1)
    · obtain ⟨r0, t1, t2⟩ := tgt (s1 d q hq hR hw' j hj) hr
      rw [← t2]
      exact mk (h.blk h1 d q hq hw' hR hp' hg j hj he r0 t1)
  · rcases mv_get hq with ⟨rfl, rfl⟩ | ⟨rfl, _, rfl⟩ | ⟨_, _, hq⟩
    · exact (nab hw').elim
    · exact (k2 h1).1
    · exact h.cur h1 d q hq hw' hR
  · obtain ⟨q, q1, q2⟩ := h.glR z hz
    obtain ⟨q', t1, t2⟩ := fwd q1
    exact ⟨q', t1, t2 ▸ q2⟩
  · rcases mv_get hq with ⟨rfl, rfl⟩ | ⟨rfl, _, rfl⟩ | ⟨_, _, hq⟩
    · omega
    · exact (k2 (by omega)).1
    · exact h.idl h1 d q hq h0
  · rcases mv_get hq with ⟨rfl, rfl⟩ | ⟨rfl, _, rfl⟩ | ⟨_, _, hq⟩
    · omega
    · exact .inl (k2 (by omega)).1
    · exact (h.swp h1 d q hq h0).imp_right fun e => e.imp_left (i.pend d)
theorem mkd_move {a b : Int} {p : OR} {k : Hd} (hp : m a = some p) (nb : m b = none) (k1 : ph = 1 → k.par = p.hd.par) (k2 : ph ≠ 1 → k.par = par) {j : Nat} (h : Mkd m par j) : Mkd (mvM m a b p k) par j := by
  have nab : b ≠ a := by rintro rfl; rw [nb] at hp; cases hp
  obtain ⟨d, q, h1, h2, h3, h4⟩ := h
  by_cases e : d = a
  · subst e; rw [hp] at h1; cases h1
    refine ⟨b, _, mv_b m p k nab, h2, rfl, ?_⟩
    by_cases e1 : ph = 1
    · exact (k1 e1).trans h4
    · exact k2 e1
  · have e2 : d ≠ b := by rintro rfl; rw [nb] at h1; cases h1
    exact ⟨d, q, by rw [mv_c m p k e e2]; exact h1, h2, h3, h4⟩
theorem TbM.move {a b : Int} {p : OR} {k : Hd} (h : TbM m par ph tb) (hp : m a = some p) (nb : m b = none) (k1 : ph = 1 → k.par = p.hd.par) (k2 : ph ≠ 1 → k.par = par) (ht : ∀ x, x ∈ tb → x ≠ b) : TbM (mvM m a b p k) par ph tb := fun h1 x hx q hq => by
  refine mkd_move hp nb k1 k2 ?_
  rcases mv_get hq with ⟨rfl, rfl⟩ | ⟨rfl, _, rfl⟩ | ⟨_, _, hq⟩
  · exact h h1 _ hx p hp
  · exact (ht _ hx rfl).elim
  · exact h h1 x hx q hq
theorem Mk.make {b : Int} {Q : OR} (h : Mk c o m R par ph look gm gl gz P 0 0 Z) (g : Geo c ws y o mv scan cop m R N) (s : Sim c m R tb G) (nb : m b = none) (b0 : b ≠ 0) (bm : b < c.mat) (hi : Q.id = N + 1) (hp : Q.hd.par = par) (hg : Q.hd.grey = false) (hf : ∀ i, Q.f i = 0) : Mk c o (upM m b Q) (fun i => R i ∨ i = N + 1) par ph look gm gl gz P 0 0 Z := by
  obtain ⟨s1, s2⟩ := s.ne nb b0
  have fwd : ∀ {v q}, m v = some q → upM m b Q v = some q := fun hq => by
    rw [upM_ne]; exact hq
    rintro rfl; rw [nb] at hq; cases hq
  have mk : ∀ {j}, Mkd m par j → Mkd (upM m b Q) par j := by
    rintro j ⟨d, q, h1, h2, h3, h4⟩; exact ⟨d, q, fwd h1, h2, h3, h4⟩
  have rr : ∀ {d q}, m d = some q → (R q.id ∨ q.id = N + 1) → R q.id := fun {d q} hq hR => hR.resolve_right (by have := g.idb d q hq; omega)
  refine ⟨h.p01, h.ph3, h.lk, h.gms, h.gll, fun d q hq hw' hg' => ?_, fun h1 d q hq hw' hR hp' hg' j hj he r hr => ?_, h.oth, fun h1 d q hq hw' hR => ?_, fun z hz => ?_, fun h1 d q hq h0 => ?_, fun h1 d q hq h0 => ?_⟩
  · rcases up_get hq with ⟨e1, e2⟩ | ⟨e1, hq⟩
    · rw [e2, hg] at hg'; cases hg'
    · obtain ⟨g1, g2, g3⟩ := h.grey d q hq hw' hg'
      refine ⟨g1, .inl g2, g3.imp_left ?_⟩
      rintro ⟨z, z1, t, z2, z3⟩; exact ⟨z, z1, t, fwd z2, z3⟩
  · rcases up_get hq with ⟨e1, e2⟩ | ⟨e1, hq⟩
    · rw [e2, hf, upM_ne _ _ (Ne.symm b0), g.nz] at hr; cases hr
    · have hR := rr hq hR
      rw [upM_ne _ _ (s1 d q hq hR hw' j hj)] at hr
      exact mk (h.blk h1 d q hq hw' hR hp' hg' j hj he r hr)
  · rcases up_get hq with ⟨e1, e2⟩ | ⟨e1, hq⟩
    · rw [e2]; exact hp
    · exact h.cur h1 d q hq hw' (rr hq hR)
  · obtain ⟨q, q1, q2⟩ := h.glR z hz
    exact ⟨q, fwd q1, .inl q2⟩
  · rcases up_get hq with ⟨e1, e2⟩ | ⟨e1, hq⟩
    · omega
    · exact h.idl h1 d q hq h0
  · rcases up_get hq with ⟨e1, e2⟩ | ⟨e1, hq⟩
    · omega
    · exact h.swp h1 d q hq h0
/-- A major cycle begins. -/
theorem Mk.begin_ (h : Mk c o m R par ph look gm gl gz P 0 0 Z) (h0 : ph = 0) {P' Z' : Int → Prop} : Mk c o m R (1 - par) 1 (-1) gm gl gz P' 0 0 Z' := by
  have p1 := h.p01
  obtain ⟨o1, o2⟩ := h.oth (by omega)
  refine ⟨by omega, by omega, by omega, h.gms, h.gll, fun d q hq hw' hg' => ?_, fun h1 d q hq hw' hR hp' hg' j hj he r hr => ?_, fun hh => (hh rfl).elim, fun hh => (hh rfl).elim, h.glR, fun hh => by omega, fun hh => by omega⟩
  · have := (h.grey d q hq hw' hg').1; omega
  · have := h.cur (by omega) d q hq hw' hR; omega
/-- All is found: what was not is of no use. -/
theorem Mk.ended (h : Mk c o m R par 1 look gm [] false P 0 0 Z) (g : Geo c ws y o mv scan cop m R N) (hP : ∀ a p, m a = some p → ¬ P a) {P' Z' : Int → Prop} : Mk c o.pend m (fun i => R i ∧ Mkd m par i) par 2 look gm [] false P' 0 0 Z' := by
  have ng : ∀ a p, m a = some p → p.way = a → p.hd.grey = true → False := fun a p hp hw hg => by
    rcases (h.grey a p hp hw hg).2.2 with ⟨s, s1, _⟩ | e | e
    · cases s1
    · cases e
    · exact hP a p hp e
  refine ⟨h.p01, by omega, h.lk, h.gms, h.gll, fun d q hq hw' hg' => (ng d q hq hw' hg').elim, fun h1 => by omega, fun _ => ⟨rfl, rfl⟩, fun _ d q hq hw' hR => ?_, (fun s hs => by cases hs), fun hh => by omega, fun _ d q hq h0 => ?_⟩
  · obtain ⟨_, d', q', h1, h2, h3, h4⟩ := hR
    have := g.uniq d d' q q' hq h1 hw' h3 h2.symm
    subst this; rw [hq] at h1; cases h1; exact h4
  · rcases g.cls hq with e | e | ⟨_, e⟩
    · have := g.low (.inl e); omega
    · have := g.low (.inr e); omega
    · exact .inr (.inl ((Ma.pend_has g.si).2 d e))
theorem Sim.ended (h : Sim c m R tb G) (k : Mk c o m R par 1 look gm [] false P 0 0 Z) (t : TbM m par 1 tb) (g : Geo c ws y o mv scan cop m R N) (hP : ∀ a p, m a = some p → ¬ P a) : Sim c m (fun i => R i ∧ Mkd m par i) tb G := by
  have ng : ∀ a p, m a = some p → p.way = a → p.hd.grey = false := fun a p hp hw => by
    cases hg : p.hd.grey with
    | false => rfl
    | true =>
      rcases (k.grey a p hp hw hg).2.2 with ⟨s, s1, _⟩ | e | e
      · cases s1
      · cases e
      · exact (hP a p hp e).elim
  refine h.sub (fun a p hp => hp) (fun i hi => hi.1) (fun i hi q hd => ?_) (fun a p hp hR hw i hi q hd => ?_)
  · rcases hd with hd | ⟨h1, h2, p, hp, e⟩
    · exact .inl hd
    · refine .inr ⟨h1, ⟨h2, ?_⟩, p, hp, e⟩
      rw [← e]
      refine t rfl _ ?_ p hp
      rw [List.getElem?_eq_getElem hi]; exact List.getElem_mem hi
  · rcases hd with hd | ⟨h1, h2, r, hr, e⟩
    · exact .inl hd
    · refine .inr ⟨h1, ⟨h2, ?_⟩, r, hr, e⟩
      obtain ⟨hR1, d', q', m1, m2, m3, m4⟩ := hR
      have := g.uniq a d' p q' hp m1 hw m3 m2.symm
      subst this; rw [hp] at m1; cases m1
      rw [← e]
      exact k.blk rfl a p hp hw hR1 m4 (ng a p hp hw) i hi (fun e => by rw [e, g.nz] at hp; cases hp) r hr
/-- One of no use is given back. -/
theorem Mk.give {a : Int} {p : OR} (h : Mk c o m R par 2 look gm gl gz P 0 0 Z) (g : Geo c ws y o mv scan cop m R N) (ha : o.has a = true) (hp : m a = some p) (hn : p.hd.par ≠ par) {Z' : Int → Prop} (hZ : ∀ z, z ≠ a → Z z → Z' z) : Mk c (o.give a) (delM m a) R par 2 look gm gl gz P 0 0 Z' ∧ ¬ R p.id := by
  have gh := Ma.give_has g.si ha
  have hw : p.way = a := g.here hp (fun hf => by have := (g.hasm ha).1; have := g.low (.inr hf); omega)
  have nR : ¬ R p.id := fun hR => hn (h.cur (by omega) a p hp hw hR)
  obtain ⟨o1, o2⟩ := h.oth (by omega)
  refine ⟨⟨h.p01, h.ph3, h.lk, h.gms, h.gll, fun d q hq hw' hg' => ?_, fun h1 => by omega, h.oth, fun h1 d q hq => h.cur h1 d q (del_get.1 hq).1, (fun z hz => by rw [o1] at hz; cases hz), fun hh => by omega, fun h1 d q hq h0 => ?_⟩, nR⟩
  · have := (h.grey d q (del_get.1 hq).1 hw' hg').1; omega
  · obtain ⟨hq, hd⟩ := del_get.1 hq
    rcases h.swp h1 d q hq h0 with e | e | e
    · exact .inl e
    · exact .inr (.inl (gh.pend d e hd))
    · exact .inr (.inr (hZ d hd e))
theorem Sim.give {a : Int} {p : OR} (h : Sim c m R tb G) (hp : m a = some p) (hn : ¬ R p.id) : Sim c (delM m a) R tb G := by
  have dd : ∀ {v q}, Den m R v q → Den (delM m a) R v q := fun {v q} hd => by
    rcases hd with hd | ⟨h1, h2, r, hr, e⟩
    · exact .inl hd
    · refine .inr ⟨h1, h2, r, del_get.2 ⟨hr, ?_⟩, e⟩
      rintro rfl; rw [hp] at hr; cases hr; rw [e] at hn; exact hn h2
  exact h.sub (fun b q hq => (del_get.1 hq).1) (fun i hi => hi) (fun i hi q hd => dd hd) (fun b q hq hR hw i hi s hd => dd hd)
/-- What has not left is gone. -/
def liveR (m : Mp) (y : Bp.Sp) (R : Nat → Prop) (i : Nat) : Prop := R i ∧ ∃ a p, m a = some p ∧ p.id = i ∧ p.way = a ∧ ¬ inF y a
theorem Sim.drop (h : Sim c m R tb G) (g : Geo c ws y o mv scan cop m R N) (nt : ∀ x, x ∈ tb → ¬ inF y x) (nf : ∀ a p, m a = some p → ¬ inF y a → ∀ i : Nat, (i : Int) < p.hd.ptrs → ¬ inF y (p.f i)) : Sim c (dropM m y) (liveR m y R) tb G := by
  have dd : ∀ {v q}, ¬ inF y v → Den m R v q → Den (dropM m y) (liveR m y R) v q := fun {v q} hv hd => by
    rcases hd with hd | ⟨h1, h2, r, hr, e⟩
    · exact .inl hd
    · exact .inr ⟨h1, ⟨h2, v, r, hr, e, g.here hr hv, hv⟩, r, drop_get.2 ⟨hr, hv⟩, e⟩
  refine h.sub (fun b q hq => (drop_get.1 hq).1) (fun i hi => hi.1) (fun i hi q hd => dd (nt _ ?_) hd) (fun b q hq hR hw i hi s hd => dd (nf b q (drop_get.1 hq).1 (drop_get.1 hq).2 i hi) hd)
  rw [List.getElem?_eq_getElem hi]; exact List.getElem_mem hi
theorem Mk.drop {gl' : List Int} (h : Mk c o m R par ph look gm gl gz P 0 0 Z) (g : Geo c ws y o mv scan cop m R N) (nf : ∀ a p, m a = some p → ¬ inF y a → ∀ i : Nat, (i : Int) < p.hd.ptrs → ¬ inF y (p.f i)) (hl : (gl'.length : Int) ≤ gm)
    (hg : ∀ z, z ∈ gl' ↔ ¬ inF y z ∧ ∃ s q, s ∈ gl ∧ m s = some q ∧ q.way = z) : Mk c o (dropM m y) (liveR m y R) par ph look gm gl' gz P 0 0 Z := by
  have mk : ∀ {v q}, m v = some q → ¬ inF y v → Mkd m par q.id → Mkd (dropM m y) par q.id := by
    rintro v q hq hv ⟨d, r, h1, h2, h3, h4⟩
    have := g.uniq v d q r hq h1 (g.here hq hv) h3 h2.symm
    subst this
    exact ⟨v, r, drop_get.2 ⟨h1, hv⟩, h2, h3, h4⟩
  refine ⟨h.p01, h.ph3, h.lk, h.gms, hl, fun d q hq hw' hg' => ?_, fun h1 d q hq hw' hR hp' hg' j hj he r hr => ?_, fun h1 => ?_, fun h1 d q hq hw' hR => h.cur h1 d q (drop_get.1 hq).1 hw' hR.1, fun z hz => ?_, fun h1 d q hq h0 => h.idl h1 d q (drop_get.1 hq).1 h0, fun h1 d q hq h0 => h.swp h1 d q (drop_get.1 hq).1 h0⟩
  · obtain ⟨hq, hd⟩ := drop_get.1 hq
    obtain ⟨g1, g2, g3⟩ := h.grey d q hq hw' hg'
    refine ⟨g1, ⟨g2, d, q, hq, rfl, hw', hd⟩, g3.imp_left ?_⟩
    rintro ⟨s, s1, t, s2, s3⟩
    obtain ⟨t', t1, t2, t3⟩ := g.now s2 (s3 ▸ g2)
    have := g.uniq d t.way q t' hq t1 hw' t2 (by rw [t3, s3])
    exact ⟨d, (hg d).2 ⟨hd, s, t, s1, s2, this.symm⟩, q, drop_get.2 ⟨hq, hd⟩, rfl⟩
  · obtain ⟨hq, hd⟩ := drop_get.1 hq
    obtain ⟨hr, hv⟩ := drop_get.1 hr
    exact mk hr hv (h.blk h1 d q hq hw' hR.1 hp' hg' j hj he r hr)
  · obtain ⟨o1, o2⟩ := h.oth h1
    refine ⟨List.eq_nil_iff_forall_not_mem.2 fun z hz => ?_, o2⟩
    obtain ⟨_, s, q, s1, _⟩ := (hg z).1 hz
    rw [o1] at s1; cases s1
  · obtain ⟨hz', s, q, s1, s2, s3⟩ := (hg z).1 hz
    obtain ⟨q0, r1, r2⟩ := h.glR s s1
    rw [s2] at r1; cases r1
    obtain ⟨t', t1, t2, t3⟩ := g.now s2 r2
    rw [s3] at t1 t2
    exact ⟨t', drop_get.2 ⟨t1, hz'⟩, by rw [t3]; exact ⟨r2, z, t', t1, t3, t2, hz'⟩⟩
theorem TbM.drop (h : TbM m par ph tb) (g : Geo c ws y o mv scan cop m R N) : TbM (dropM m y) par ph tb := fun h1 x hx q hq => by
  obtain ⟨hq, hv⟩ := drop_get.1 hq
  obtain ⟨d, r, h1, h2, h3, h4⟩ := h h1 x hx q hq
  have := g.uniq x d q r hq h1 (g.here hq hv) h3 h2.symm
  subst this
  exact ⟨x, r, drop_get.2 ⟨h1, hv⟩, h2, h3, h4⟩
end
end Go.Proofs.YtihmkkjmnbehbaaGreat.Wh
