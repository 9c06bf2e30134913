/- Texts of the whole heap, joined: WqP. No condition beside those that each lemma names. -/
import Derived.Test.YtihmkkjmnbehbaaGreatMg31
/- A bit of the major cycle, and many, keep what holds of a heap; each is less than the one ahead. No condition. -/
set_option linter.unusedVariables false
set_option linter.unusedSimpArgs false
namespace Go.Proofs.YtihmkkjmnbehbaaGreat.Wh
open Go.RowKit Go.Proofs.YtihmkkjmnbehbaaGreat.W
theorem Chain.same {m m' : Mp} (h : Same m m') {L : List Int} {a e : Int} (hc : Chain m L a e) : Chain m' L a e := hc.mono fun x _ p hp => by
  obtain ⟨q, hq, e1, _⟩ := h.fwd x p hp
  exact ⟨q, hq, by unfold OR.n; rw [e1]⟩
theorem Chain.len {ws : List Int} {m : Mp} (h : Rep ws m) {L : List Int} {e : Int} : ∀ {a : Int}, Chain m L a e → 2 * (L.length : Int) ≤ e - a := by
  induction L with
  | nil => intro a hc; cases hc; simp
  | cons x r ih =>
    rintro a ⟨rfl, o, ho, hc⟩
    have := ih hc
    have := (h.at_ x o ho).n2
    simp only [List.length_cons]; omega
section
variable {S : CS} {m : Mp} {R : Nat → Prop} {G : Gr.GS} {ex : Int} {X P Q : Int → Prop} {Z : Int → Prop}
theorem Inv.see (h : Inv S m R G ex X P 0 0 Z) (hQ : ∀ d q, m d = some q → q.way = d → q.hd.grey = true → P d → Q d) : Inv S m R G ex X Q 0 0 Z := ⟨h.geo, h.mn, h.sim, h.mks.see fun d q h1 h2 h3 h4 => .inr (hQ d q h1 h2 h3 h4)⟩
/-- Lost ones of a half. -/
theorem half_spec {e : Int} : ∀ (L : List Int) (a : Int) (k : Nat) (done : Int) (S : CS) (m : Mp), Chain m L a e → L.length ≤ k → Inv S m R G ex X (fun z => Q z ∨ (a ≤ z ∧ z < e)) 0 0 Z → S.ph = 1 →
    ∃ m', Inv (CS.half e k a done S).2 m' R G ex X Q 0 0 Z ∧ Mstep S m (CS.half e k a done S).2 m' ∧ done ≤ (CS.half e k a done S).1 ∧ (CS.half e k a done S).1 ≤ done + 67 * L.length := by
  intro L
  induction L with
  | nil =>
    intro a k done S m hc hk h h1
    have hc : a = e := hc
    have e1 : CS.half e k a done S = (done, S) := by
      cases k with
      | zero => rfl
      | succ k => unfold CS.half; rw [if_neg (by omega)]
    rw [e1]
    exact ⟨m, h.see (fun d q _ _ _ hd => hd.resolve_right (by omega)), Mstep.refl S m, Int.le_refl _, by simp⟩
  | cons x r ih =>
    intro a k done S m hc hk h h1
    obtain ⟨rfl, p, hp, hc⟩ := hc
    have g := h.geo
    have n2 := (g.rep.at_ x p hp).n2
    have le := (hc.bound g.rep).1
    cases k with
    | zero => simp at hk
    | succ k =>
      have hd := h.hd hp
      have nw := h.now hp
      have wd := h.words hp
      -- what is done here
      have step : ∃ (d1 : Int) (S1 : CS) (m1 : Mp), (if S.now x = x ∧ (S.hd x).grey = true then (done + (S.mthrough x).1, (S.mthrough x).2) else (done, S)) = (d1, S1) ∧ Inv S1 m1 R G ex X (fun z => Q z ∨ (x + p.n ≤ z ∧ z < e)) 0 0 Z ∧ Mstep S m S1 m1 ∧ done ≤ d1 ∧ d1 ≤ done + 66 := by
        by_cases hh : S.now x = x ∧ (S.hd x).grey = true
        · rw [if_pos hh]
          rw [nw, hd] at hh
          obtain ⟨m1, i1, s1, l1, l2⟩ := mthrough_spec (P' := fun z => (Q z ∨ (x ≤ z ∧ z < e)) ∧ z ≠ x) h h1 hp hh.1 (fun z hz hP => ⟨hP, hz⟩)
          refine ⟨_, _, m1, rfl, i1.see (fun d q hq _ _ hd => ?_), s1, by omega, by omega⟩
          obtain ⟨hd | hd, hn⟩ := hd
          · exact .inl hd
          · obtain ⟨p1, t1, t2, _⟩ := s1.same.fwd x p hp
            have := i1.geo.rep.apart x d p1 q t1 hq (by omega)
            unfold OR.n at this ⊢
            rw [t2] at this
            exact .inr ⟨by omega, hd.2⟩
        · rw [if_neg hh]
          rw [nw, hd] at hh
          refine ⟨done, S, m, rfl, h.see (fun d q hq hw hg hd => ?_), Mstep.refl S m, Int.le_refl _, by omega⟩
          rcases hd with hd | hd
          · exact .inl hd
          · by_cases e : d = x
            · subst e; rw [hp] at hq; cases hq; exact (hh ⟨hw, hg⟩).elim
            · have := g.rep.apart x d p q hp hq (by omega)
              exact .inr ⟨by omega, hd.2⟩
      obtain ⟨d1, S1, m1, e1, i1, s1, l1, l2⟩ := step
      obtain ⟨ws, gl, gz, e2⟩ := s1.eq
      obtain ⟨m2, i2, s2, l3, l4⟩ := ih (x + p.n) k (d1 + 1) S1 m1 (hc.same s1.same) (by simp at hk; omega) i1 (by rw [e2]; exact h1)
      have e3 : CS.half e (k + 1) x done S = CS.half e k (x + p.n) (d1 + 1) S1 := by
        show (if x < e then _ else _) = _
        rw [if_pos (by omega)]
        simp only [wd, e1]
      rw [e3]
      refine ⟨m2, i2, s1.trans s2, by omega, ?_⟩
      simp only [List.length_cons]; omega
/-- Lost ones of the nursery. -/
theorem lost_spec (h : Inv S m R G ex X (lookP S) 0 0 Z) (h1 : S.ph = 1) (hz : S.gz = true) (hk : S.look < 0) :
    ∃ m' ws gl gz, S.lost.2 = { S with ws := ws, gl := gl, gz := gz, look := 0 } ∧ Inv S.lost.2 m' R G ex X (lookP S.lost.2) 0 0 Z ∧ Same m m' ∧ (TbM m S.par S.ph S.tb → TbM m' S.par S.ph S.tb) ∧ msM S.lost.2 + 70 ≤ msM S ∧ 0 ≤ S.lost.1 ∧ S.lost.1 ≤ 1000000 := by
  have g := h.geo
  have y0 := g.y0; have y1 := g.y1; have y2 := g.y2; have n1 := g.cf.n1
  obtain ⟨L1, hL1⟩ := g.tch
  obtain ⟨L2, hL2, _⟩ := g.fch
  have len1 := hL1.len g.rep
  have len2 := hL2.len g.rep
  obtain ⟨S0, hS0⟩ : ∃ S0 : CS, S0 = { S with gz := false, look := 0 } := ⟨_, rfl⟩
  have lk : ∀ {ws gl gz}, lookP ({ S with ws := ws, gl := gl, gz := gz, look := 0 } : CS) = fun z => S.c.mat ≤ z := by
    intro ws gl gz
    unfold lookP; funext z
    simp
  have i0 : Inv S0 m R G ex X (fun z => (S.c.mat ≤ z ∨ (S.y.there ≤ z ∧ z < S.y.there + S.y.left)) ∨ (S.y.here ≤ z ∧ z < S.y.here + S.y.used)) 0 0 Z := by
    rw [hS0]
    refine ⟨g, h.mn, h.sim, (h.mks.found h1 (fun a p hp => ?_)).look_ (by show (-1 : Int) ≤ 0 ∧ (0 : Int) ≤ 64; omega)⟩
    rcases g.cls hp with e | e | ⟨e, _⟩
    · exact .inr e
    · exact .inl (.inr e)
    · exact .inl (.inl e)
  have p0 := g.cf.p0
  have ms0 : msM S0 + 70 = msM S := by
    rw [hS0]; unfold msM; simp only [hz]; simp
  have y00 : S0.y = S.y := by rw [hS0]
  obtain ⟨m1, i1, s1, l1, l2⟩ := half_spec L1 S.y.here (S.y.here + S.y.used - S.y.here).toNat 0 S0 m hL1 (by omega) i0 (by rw [hS0]; exact h1)
  obtain ⟨ws1, gl1, gz1, e1⟩ := s1.eq
  obtain ⟨S1, hS1⟩ : ∃ S1, CS.half (S.y.here + S.y.used) (S.y.here + S.y.used - S.y.here).toNat S.y.here 0 S0 = S1 := ⟨_, rfl⟩
  rw [hS1] at i1 s1 e1 l1 l2
  have y11 : S1.2.y = S.y := by rw [e1]; exact y00
  obtain ⟨m2, i2, s2, l3, l4⟩ := half_spec L2 S.y.there (S.y.there + S.y.left - S.y.there).toNat 0 S1.2 m1 (hL2.same s1.same) (by omega) i1 (by rw [e1, hS0]; exact h1)
  obtain ⟨ws2, gl2, gz2, e2⟩ := s2.eq
  obtain ⟨S2, hS2⟩ : ∃ S2, CS.half (S.y.there + S.y.left) (S.y.there + S.y.left - S.y.there).toNat S.y.there 0 S1.2 = S2 := ⟨_, rfl⟩
  rw [hS2] at i2 s2 e2 l3 l4
  have e : S.lost = (S1.1 + S2.1 + 1, S2.2) := by
    unfold CS.lost
    rw [← hS0]
    simp only [y00, hS1, y11, hS2]
  have s3 := s1.trans s2
  have eq : S2.2 = { S with ws := ws2, gl := gl2, gz := gz2, look := 0 } := by rw [e2, e1, hS0]
  rw [e]
  refine ⟨m2, ws2, gl2, gz2, eq, ?_, s3.same, ?_, ?_, by simp only []; omega, by simp only []; omega⟩
  · show Inv S2.2 m2 R G ex X (lookP S2.2) 0 0 Z
    rw [eq, lk, ← eq]; exact i2
  · have t := s3.tbm
    rw [hS0] at t; exact t
  · have := s3.ms
    simp only []; omega
/-- Lost ones of a list. -/
theorem pageL_spec : ∀ (L : List Int) (d : Int) (S : CS) (m : Mp), Inv S m R G ex X (fun z => Q z ∨ z ∈ L) 0 0 Z → S.ph = 1 → (∀ x, x ∈ L → ∃ p, m x = some p ∧ p.way = x) →
    ∃ m', Inv (CS.pageL L d S).2 m' R G ex X Q 0 0 Z ∧ Mstep S m (CS.pageL L d S).2 m' ∧ d ≤ (CS.pageL L d S).1 ∧ (CS.pageL L d S).1 ≤ d + 67 * L.length := by
  intro L
  induction L with
  | nil =>
    intro d S m h h1 hL
    exact ⟨m, h.see (fun d q _ _ _ hd => hd.resolve_right (by simp)), Mstep.refl S m, Int.le_refl d, by show d ≤ d + 67 * ((0 : Nat) : Int); omega⟩
  | cons x r ih =>
    intro d S m h h1 hL
    obtain ⟨p, hp, hw⟩ := hL x List.mem_cons_self
    have hd := h.hd hp
    by_cases hg : p.hd.grey = true
    · obtain ⟨m1, i1, s1, l1, l2⟩ := mthrough_spec (P' := fun z => Q z ∨ z ∈ r) h h1 hp hw (fun z hz hP => hP.imp_right fun e => (List.mem_cons.1 e).resolve_left hz)
      obtain ⟨ws, gl, gz, e⟩ := s1.eq
      obtain ⟨m2, i2, s2, l3, l4⟩ := ih (d + (S.mthrough x).1 + 1) (S.mthrough x).2 m1 i1 (by rw [e]; exact h1) (fun z hz => by
        obtain ⟨q, hq, hw'⟩ := hL z (List.mem_cons_of_mem _ hz)
        obtain ⟨q', t1, _, _, _, _, t2, _⟩ := s1.same.fwd z q hq
        exact ⟨q', t1, t2.trans hw'⟩)
      have e1 : CS.pageL (x :: r) d S = CS.pageL r (d + (S.mthrough x).1 + 1) (S.mthrough x).2 := by
        show (if (S.hd x).grey then _ else _) = _
        rw [hd, if_pos hg]
      rw [e1]
      refine ⟨m2, i2, s1.trans s2, by omega, by simp only [List.length_cons]; omega⟩
    · obtain ⟨m2, i2, s2, l3, l4⟩ := ih (d + 1) S m (h.see (fun z q hq _ hg' hd => hd.imp_right fun e => (List.mem_cons.1 e).resolve_left (fun e => by rw [e, hp] at hq; cases hq; exact hg hg'))) h1 (fun z hz => hL z (List.mem_cons_of_mem _ hz))
      have e1 : CS.pageL (x :: r) d S = CS.pageL r (d + 1) S := by
        show (if (S.hd x).grey then _ else _) = _
        rw [hd, if_neg hg]
      rw [e1]
      refine ⟨m2, i2, s2, by omega, by simp only [List.length_cons]; omega⟩
theorem page_spec (h : Inv S m R G ex X (lookP S) 0 0 Z) (h1 : S.ph = 1) (hk : 0 ≤ S.look) :
    ∃ m' ws gl gz look, S.page.2 = { S with ws := ws, gl := gl, gz := gz, look := look } ∧ Inv S.page.2 m' R G ex X (lookP S.page.2) 0 0 Z ∧ Same m m' ∧ (TbM m S.par S.ph S.tb → TbM m' S.par S.ph S.tb) ∧ msM S.page.2 ≤ msM S ∧ ((look = -1) ∨ (look = S.look + 1 ∧ look < S.c.p)) ∧ 0 ≤ S.page.1 ∧ S.page.1 ≤ 1100000 := by
  have g := h.geo
  have p0 := g.cf.p0; have p1 := g.cf.p1; have w0 := g.cf.w0
  obtain ⟨L, hL⟩ : ∃ L, Ma.stL S.o.f S.o.w (pgF S.o S.look) (pgT S.o S.look) S.o.l 0 = L := ⟨_, rfl⟩
  have sl := Ma.starts_len g.si.ok (pgF S.o S.look) (pgT S.o S.look)
  rw [hL] at sl
  have mem : ∀ x, x ∈ L ↔ pgF S.o S.look ≤ x ∧ x < pgT S.o S.look ∧ S.o.has x = true := fun x => by rw [← hL]; exact Ma.starts_iff g.si.ok
  have lw : (S.look + 1) * S.c.w = S.look * S.c.w + S.c.w := by rw [Int.add_mul, Int.one_mul]
  -- the page, and those behind it
  have i0 : Inv S m R G ex X (fun z => S.c.mat + (S.look + 1) * S.c.w ≤ z ∨ z ∈ L) 0 0 Z := h.see (fun d q hq _ _ hd => by
    have h0 := lookP_mat g.cf d hd
    have ha := (has_m h h0).2 ⟨q, hq⟩
    by_cases e : S.c.mat + (S.look + 1) * S.c.w ≤ d
    · exact .inl e
    · have hm := g.hasm ha
      have i := Ma.has_in g.si ha
      have lt : S.look < S.c.p := by
        apply Classical.byContradiction
        intro hn
        have := Int.mul_le_mul_of_nonneg_right (by omega : S.c.p ≤ S.look) (by omega : 0 ≤ S.c.w)
        have := hd.2
        unfold CF.words at hm
        omega
      refine .inr ((mem d).2 ⟨?_, ?_, ha⟩)
      · unfold pgF; rw [if_pos (by rw [g.ol]; omega), g.of_, g.ow]; exact hd.2
      · unfold pgT; rw [if_pos (by rw [g.ol]; omega), g.of_, g.ow]; omega)
  obtain ⟨m2, i2, s2, l1, l2⟩ := pageL_spec (Q := fun z => S.c.mat + (S.look + 1) * S.c.w ≤ z) L 1 S m i0 h1 (fun x hx => by
    have ha := ((mem x).1 hx).2.2
    obtain ⟨p, hp⟩ := g.all x ha
    have := (g.hasm ha).1
    exact ⟨p, hp, g.here hp (fun hf => by have := g.low (.inr hf); omega)⟩)
  obtain ⟨ws, gl, gz, e⟩ := s2.eq
  obtain ⟨r, hr⟩ : ∃ r, CS.pageL L 1 S = r := ⟨_, rfl⟩
  rw [hr] at i2 s2 e l1 l2
  obtain ⟨l', hl'⟩ : ∃ l', (if S.c.p ≤ S.look + 1 then (-1 : Int) else S.look + 1) = l' := ⟨_, rfl⟩
  have ep : S.page = (r.1, { r.2 with look := l' }) := by
    unfold CS.page
    rw [hL]
    simp only [hr]
    rw [← hl', e]
  have lc : l' = -1 ∧ S.c.p ≤ S.look + 1 ∨ l' = S.look + 1 ∧ l' < S.c.p := by rw [← hl']; split <;> omega
  rw [ep]
  refine ⟨m2, ws, gl, gz, l', by rw [e], ?_, s2.same, s2.tbm, s2.ms, lc.imp (fun h => h.1) id, by simp only []; omega, by simp only []; omega⟩
  have i3 : Inv { r.2 with look := l' } m2 R G ex X (fun z => S.c.mat + (S.look + 1) * S.c.w ≤ z) 0 0 Z := ⟨i2.geo, i2.mn, i2.sim, i2.mks.look_ (by show -1 ≤ l' ∧ l' ≤ 64; omega)⟩
  have e4 : r.2.c = S.c := by rw [e]
  refine i3.see (fun d q hq _ _ hd => ?_)
  have h0 : S.c.mat ≤ d := by have := Int.mul_nonneg (by omega : 0 ≤ S.look + 1) (by omega : 0 ≤ S.c.w); omega
  unfold lookP
  simp only [e4]
  rcases lc with ⟨e5, e6⟩ | ⟨e5, e6⟩
  · have g3 := i3.geo
    have ha := (has_m i3 (by show r.2.c.mat ≤ d; rw [e4]; exact h0)).2 ⟨q, hq⟩
    have hm := g3.hasm ha
    have i := (Ma.has_in g3.si ha).2.2
    have := Int.mul_le_mul_of_nonneg_right e6 (by omega : 0 ≤ S.c.w)
    dsimp only at hm i
    rw [e4] at hm
    unfold CF.words at hm
    exfalso; omega
  · rw [e5]; exact ⟨by omega, hd⟩
end
end Go.Proofs.YtihmkkjmnbehbaaGreat.Wh
