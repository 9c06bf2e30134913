/- Texts of the whole heap, joined: WqJ WqK. No condition beside those that each lemma names. -/
import Derived.Test.YtihmkkjmnbehbaaGreatMg28
/- What holds of a heap at any time, and that a move keeps it. No condition. -/
set_option linter.unusedVariables false
set_option linter.unusedSimpArgs false
namespace Go.Proofs.YtihmkkjmnbehbaaGreat.Wh
open Go.RowKit Go.Proofs.YtihmkkjmnbehbaaGreat.W
structure Inv (S : CS) (m : Mp) (R : Nat → Prop) (G : Gr.GS) (ex : Int) (X P : Int → Prop) (kx : Int) (kn : Nat) (Z : Int → Prop) : Prop where
  geo : Geo S.c S.ws S.y S.o S.mv S.scan S.cop m R G.nodes.length
  mn : Mn S.c S.y S.mv S.scan S.cop S.r S.row m ex X
  sim : Sim S.c m R S.tb G
  mks : Mk S.c S.o m R S.par S.ph S.look S.gm S.gl S.gz P kx kn Z
/-- No handle holds what is to leave. -/
def NoF (y : Bp.Sp) (tb : List Int) : Prop := ∀ x, x ∈ tb → ¬ inF y x
section
variable {S : CS} {m : Mp} {R : Nat → Prop} {G : Gr.GS} {ex : Int} {X P : Int → Prop} {kx : Int} {kn : Nat} {Z : Int → Prop}
theorem Inv.hd (h : Inv S m R G ex X P kx kn Z) {a : Int} {p : OR} (hp : m a = some p) : S.hd a = p.hd := (h.geo.rep.at_ a p hp).hdAt
theorem Inv.fld (h : Inv S m R G ex X P kx kn Z) {a : Int} {p : OR} (hp : m a = some p) {n : Int} (n0 : 0 ≤ n) (n1 : n < p.hd.size) : Ob.ldW S.ws (Ob.placeOf a n) = p.f n.toNat := (h.geo.rep.at_ a p hp).fld h.geo.rep.len n0 n1
theorem Inv.ref (h : Inv S m R G ex X P kx kn Z) {a : Int} {p : OR} (hp : m a = some p) {n : Int} (n0 : 0 ≤ n) (n1 : n < p.hd.ptrs) (hr : Rf S.c S.y m (p.f n.toNat)) : S.ref a n = p.f n.toNat := by
  have hg := (h.geo.rep.at_ a p hp).good
  unfold Hea.Hd.good at hg
  have := hr.small h.geo
  unfold CS.ref
  rw [h.fld hp n0 (by omega)]
  unfold wrap64; omega
theorem Inv.now0 (S : CS) {v : Int} (hf : ¬ inF S.y v) : S.now v = v := by
  unfold CS.now
  rw [if_pos (.inr (isFrom_not.2 hf))]
theorem Inv.now (h : Inv S m R G ex X P kx kn Z) {a : Int} {p : OR} (hp : m a = some p) : S.now a = p.way := by
  have r := h.geo.rng hp
  have w := h.geo.words
  by_cases hf : inF S.y a
  · unfold CS.now
    rw [if_neg (by rw [isFrom_not]; intro e; rcases e with e | e; omega; exact e hf), if_pos (by unfold Ob.okAt; simp; omega)]
    rw [(h.geo.rep.at_ a p hp).way]
    unfold wrap64; omega
  · rw [Inv.now0 S hf, h.geo.here hp hf]
theorem Inv.words (h : Inv S m R G ex X P kx kn Z) {a : Int} {p : OR} (hp : m a = some p) : Ob.wordsOf (S.hd a) = p.n := by rw [h.hd hp]; exact (h.geo.rep.at_ a p hp).words
theorem age1_ok {h : Hd} (hg : h.good) : (age1 h).good ∧ Ob.wordsOf (age1 h) = h.size + 2 := by
  unfold Hea.Hd.good at hg
  have : (age1 h).good := by unfold Hea.Hd.good age1; simp only []; split <;> omega
  exact ⟨this, Ob.wordsOf_good this⟩
/-- There is room for what moves. -/
theorem place_into (h : Inv S m R G ex X P kx kn Z) {a : Int} {p : OR} (hm : S.mv = true) (hp : m a = some p) (hf : inF S.y a) (hw : p.way = a) (age : Int) :
    ∃ b old y' o', S.place p.n age = ((b, old), { S with y := y', o := o' }) ∧ Into S.c S.y S.o b p.n old y' o' := by
  have g := h.geo
  have n2 := (g.rep.at_ a p hp).n2
  have young : ∃ b old y' o', ((yAt S.y p.n, false), { S with y := S.y.take p.n }) = ((b, old), ({ S with y := y', o := o' } : CS)) ∧ Into S.c S.y S.o b p.n old y' o' := by
    obtain ⟨L, hL, hu⟩ := g.fch
    have r1 := g.room hm
    have u1 := hu hm
    have ua : uw m a = p.n := by unfold uw; rw [hp]; exact if_pos hw
    have u2 := sum_ge (f := uw m) (fun z => uw_nn g.rep z) (hL.mem g.rep hp hf.1 hf.2)
    unfold unm at u1
    have fit : S.y.fits p.n = true := by unfold Bp.Sp.fits Bp.Sp.room; rw [g.y3]; simp; omega
    obtain ⟨e1, e2, e3, e4, e5⟩ := take_y fit
    refine ⟨S.y.here + S.y.used, false, S.y.take p.n, S.o, ?_, ⟨e1, e2, e3, e5, g.si, rfl, rfl, rfl, (fun e => by cases e), fun z => ⟨fun hz => .inr hz, fun hz => ?_⟩, fun z _ => rfl, fun z hz => hz, .inr ⟨rfl, rfl, e4, by omega⟩⟩⟩
    · unfold yAt; rw [if_pos fit]
    · rcases hz with ⟨_, hz⟩ | hz
      · cases hz
      · exact hz
  unfold CS.place
  split
  · cases ht : S.o.took p.n with
    | none => exact young
    | some b =>
      have t := Ma.take_has g.si (by omega) ht
      exact ⟨b, true, S.y, S.o.take p.n, rfl, ⟨rfl, rfl, rfl, rfl, t.si, t.f, t.w, t.len, fun _ => t.no, fun z => ⟨fun hz => ((t.iff z).1 hz).imp_left fun e => ⟨e, rfl⟩, fun hz => (t.iff z).2 (hz.imp_left fun e => e.1)⟩, t.size, t.pend, .inl ⟨rfl, rfl, t.big (by omega)⟩⟩⟩
  · exact young
/-- What a move does. -/
structure Moved (S : CS) (m : Mp) (R : Nat → Prop) (v w : Int) (S' : CS) (m' : Mp) : Prop where
  nF : (v = 0 → w = 0) ∧ ¬ inF S'.y w
  own : ∀ d q, ¬ inF S.y d → m d = some q → m' d = some q
  fwd : ∀ d q, m d = some q → ∃ q', m' d = some q' ∧ q'.id = q.id
  rf : Rf S.c S.y m v → Rf S.c S'.y m' w
  den : ∀ q, Den m R v q → Den m' R w q
  tbm : TbM m S.par S.ph S.tb → TbM m' S.par S.ph S.tb
  mkd : ∀ k, Mkd m S.par k → Mkd m' S.par k
  tgt : ∀ q, m v = some q → R q.id → ∃ q', m' w = some q' ∧ q'.id = q.id
  yF : ∀ z, inF S'.y z ↔ inF S.y z
  yT : ∀ z, inT S.y z → inT S'.y z
  here : S'.y.here = S.y.here ∧ S'.y.there = S.y.there ∧ S'.y.left = S.y.left
  c : S'.c = S.c
  tb : S'.tb = S.tb
  par : S'.par = S.par
  ph : S'.ph = S.ph
  mv : S'.mv = S.mv
  scan : S'.scan = S.scan
  look : S'.look = S.look
  gm : S'.gm = S.gm
  gl : S'.gl = S.gl
  gz : S'.gz = S.gz
  r : S'.r = S.r
  row : ∃ l, S'.row = S.row ++ l
  idle : ¬ inF S.y v → w = v ∧ S' = S ∧ m' = m
  ms : (S'.row.length : Int) + S'.y.used - 2 * S'.cop ≤ S.row.length + S.y.used - 2 * S.cop
theorem Moved.refl {v : Int} (hf : ¬ inF S.y v) : Moved S m R v v S m :=
  ⟨⟨fun h => h, hf⟩, fun _ _ _ h => h, fun _ q h => ⟨q, h, rfl⟩, fun h => h, fun _ h => h, fun h => h, fun _ h => h, fun q h _ => ⟨q, h, rfl⟩, fun _ => Iff.rfl, fun _ h => h, ⟨rfl, rfl, rfl⟩, rfl, rfl, rfl, rfl, rfl, rfl, rfl, rfl, rfl, rfl, rfl, ⟨[], by simp⟩, fun _ => ⟨rfl, rfl, rfl⟩, Int.le_refl _⟩
theorem move_spec (h : Inv S m R G ex X P 0 0 Z) (v : Int) (hv : inF S.y v → ∃ p, m v = some p) (hP : ∀ z, P z → S.c.mat ≤ z) :
    ∃ m', Inv (S.move v).2 m' R G ex X P 0 0 Z ∧ Moved S m R v (S.move v).1 (S.move v).2 m' := by
  have g := h.geo
  by_cases hf : inF S.y v
  · obtain ⟨p, hp⟩ := hv hf
    have r := g.rng hp
    have n0 : ¬ (v = 0 ∨ S.y.isFrom v = false) := by rw [isFrom_not]; rintro (e | e); omega; exact e hf
    have hm : S.mv = true := by
      cases hh : S.mv with
      | true => rfl
      | false => have := g.nmv hh; unfold inF at hf; omega
    by_cases hw : p.way = v
    · have gd := (g.rep.at_ v p hp).good
      obtain ⟨ag, aw⟩ := age1_ok gd
      obtain ⟨b, old, y', o', e, i⟩ := place_into h hm hp hf hw (age1 p.hd).age
      obtain ⟨ap, b0, b1, bo, bf⟩ := i.apart g (by omega)
      have nb := g.rep.free (by omega) ap
      have aw' : Ob.wordsOf (age1 p.hd) = p.n := aw
      have cop : wrap64 (S.cop + p.n) = S.cop + p.n := by
        obtain ⟨L, hL, hu⟩ := g.fch
        have := hu hm
        have := sum_nn (f := uw m) (L := L) (fun z => uw_nn g.rep z)
        have := g.room hm; have := g.y2; have := g.cf.n1; have := (g.rep.at_ v p hp).n2
        unfold unm at *; unfold wrap64; omega
      obtain ⟨k, hk⟩ : ∃ k, mvHd S p.hd old = k := ⟨_, rfl⟩
      have kf : k.good ∧ k.size = p.hd.size ∧ k.ptrs = p.hd.ptrs ∧ k.noted = p.hd.noted ∧ k.old = old ∧ (S.ph = 1 → k.par = p.hd.par ∧ k.grey = p.hd.grey) ∧ (S.ph ≠ 1 → k.par = S.par ∧ k.grey = false) := by
        subst hk
        have p01 := h.mks.p01
        unfold mvHd
        split
        · rename_i h1
          exact ⟨by unfold Hea.Hd.good at ag ⊢; exact ag, rfl, rfl, rfl, rfl, fun _ => ⟨rfl, rfl⟩, fun e => (e h1).elim⟩
        · rename_i h1
          exact ⟨by unfold Hea.Hd.good at ag ⊢; simp only []; omega, rfl, rfl, rfl, rfl, fun e => (h1 e).elim, fun _ => ⟨rfl, rfl⟩⟩
      obtain ⟨k1, k2, k3, k4, k5, k6, k7⟩ := kf
      rw [← k5] at i
      obtain ⟨D, hD⟩ : ∃ D : Dn, D = (if old then { S.d with pr := wrap64 (S.d.pr + p.n) } else S.d) := ⟨_, rfl⟩
      have res : S.move v = (b, { S with y := y', o := o', ws := Ob.mvW S.ws v b k, cop := S.cop + p.n, row := if k.old then S.row ++ [b] else S.row, d := D }) := by
        unfold CS.move
        rw [if_neg n0, h.now hp, if_neg (fun hh => hh hw)]
        simp only [h.hd hp, aw', e, hk, cop, hD, k5]
        cases old <;> rfl
      rw [res]
      have g' := g.move hm hp hf hw k1 k2 i
      have m' := h.mn.move g hm hp hf hw k3 k4 i
      have s' := h.sim.move (k := k) hp nb hw k3 k2
      have kk := h.mks.move g h.sim hp hf hw k3 k6 k7 i (fun hh => by have := hP _ hh; have := g.low (.inr hf); omega)
      have nab : b ≠ v := by rintro rfl; rw [nb] at hp; cases hp
      obtain ⟨s1, s2⟩ := h.sim.ne nb (by omega)
      refine ⟨mvM m v b p k, ⟨g', m', s', kk⟩, ⟨⟨fun e => by omega, fun e => bf ?_⟩, fun d q hd hq => ?_, fun d q hq => mv_id hp nb hq, fun _ => ?_, fun q hq => ?_, fun t => t.move hp nb (fun e => (k6 e).1) (fun e => (k7 e).1) s2, fun j hj => mkd_move hp nb (fun e => (k6 e).1) (fun e => (k7 e).1) hj, fun q hq _ => ?_, fun z => ?_, fun z hz => ?_, ⟨i.here, i.there, i.left⟩, rfl, rfl, rfl, rfl, rfl, rfl, rfl, rfl, rfl, rfl, rfl, ?_, fun hh => (hh hf).elim, ?_⟩⟩
      · unfold inF at e ⊢; simp only [i.there, i.left] at e; exact e
      · have e1 : d ≠ v := by rintro rfl; exact hd hf
        have e2 : d ≠ b := by rintro rfl; rw [nb] at hq; cases hq
        rw [mv_c m p k e1 e2]; exact hq
      · rcases g'.cls (mv_b m p k nab) with e | e | ⟨e, _⟩
        · exact .inr (.inl ⟨_, mv_b m p k nab, .inl e⟩)
        · exact .inr (.inl ⟨_, mv_b m p k nab, .inr e⟩)
        · exact .inr (.inr ⟨e, by have := g.words; omega⟩)
      · rcases hq with ⟨e, _⟩ | ⟨h1, h2, p', hp', e⟩
        · omega
        · rw [hp] at hp'; cases hp'
          exact .inr ⟨h1, h2, _, mv_b m p k nab, e⟩
      · rw [hp] at hq; cases hq; exact ⟨_, mv_b m p k nab, rfl⟩
      · unfold inF; simp only [i.there, i.left]
      · unfold inT at hz ⊢; simp only [i.here]
        rcases i.at_ with ⟨_, e, _⟩ | ⟨_, _, e, _⟩ <;> omega
      · show ∃ l, (if k.old then S.row ++ [b] else S.row) = S.row ++ l
        split
        · exact ⟨[b], rfl⟩
        · exact ⟨[], by simp⟩
      · show ((if k.old then S.row ++ [b] else S.row).length : Int) + y'.used - 2 * (S.cop + p.n) ≤ S.row.length + S.y.used - 2 * S.cop
        rcases i.at_ with ⟨e, e', _⟩ | ⟨e, _, e', _⟩
        · rw [if_pos e, List.length_append]; simp only [List.length_singleton]; omega
        · rw [if_neg (by rw [e]; simp)]; omega
    · have e : S.move v = (p.way, S) := by unfold CS.move; rw [if_neg n0, h.now hp, if_pos hw]
      rw [e]
      have nf : ¬ inF S.y p.way := by
        rcases g.way v p hp with e | ⟨_, e, _⟩
        · exact (hw e).elim
        · exact e
      have wds := g.words
      refine ⟨m, h, ⟨⟨fun e => by omega, nf⟩, fun _ _ _ h => h, fun _ q h => ⟨q, h, rfl⟩, fun _ => ?_, fun t ht => ?_, fun h => h, fun _ h => h, fun t ht hR => ?_, fun _ => Iff.rfl, fun _ h => h, ⟨rfl, rfl, rfl⟩, rfl, rfl, rfl, rfl, rfl, rfl, rfl, rfl, rfl, rfl, rfl, ⟨[], by simp⟩, fun hh => (hh hf).elim, Int.le_refl _⟩⟩
      · rcases g.way v p hp with e | ⟨_, _, ⟨q, q1, _⟩ | ⟨e, _⟩⟩
        · exact (hw e).elim
        · rcases g.cls q1 with e | e | ⟨e, _⟩
          · exact .inr (.inl ⟨q, q1, .inl e⟩)
          · exact (nf e).elim
          · exact .inr (.inr ⟨e, by omega⟩)
        · exact .inr (.inr ⟨e, by omega⟩)
      · rcases ht with ⟨e, _⟩ | ⟨h1, h2, p', hp', e⟩
        · omega
        · rw [hp] at hp'; cases hp'
          obtain ⟨q, q1, q2, q3⟩ := g.now hp (e ▸ h2)
          exact .inr ⟨h1, h2, q, q1, q3.trans e⟩
      · rw [hp] at ht; cases ht
        obtain ⟨q, q1, q2, q3⟩ := g.now hp hR
        exact ⟨q, q1, q3⟩
  · have e : S.move v = (v, S) := by unfold CS.move; rw [if_pos (.inr (isFrom_not.2 hf))]
    rw [e]
    exact ⟨m, h, Moved.refl hf⟩
end
end Go.Proofs.YtihmkkjmnbehbaaGreat.Wh
/- Marking, noting, and looking through one object keep what holds of a heap. No condition. -/
set_option linter.unusedVariables false
set_option linter.unusedSimpArgs false
namespace Go.Proofs.YtihmkkjmnbehbaaGreat.Wh
open Go.RowKit Go.Proofs.YtihmkkjmnbehbaaGreat.W
/-- The same objects, but for flags. -/
structure Same (m m' : Mp) : Prop where
  fwd : ∀ d q, m d = some q → ∃ q', m' d = some q' ∧ q'.hd.size = q.hd.size ∧ q'.hd.ptrs = q.hd.ptrs ∧ q'.hd.old = q.hd.old ∧ q'.hd.age = q.hd.age ∧ q'.way = q.way ∧ q'.fl = q.fl ∧ q'.id = q.id
  back : ∀ d q', m' d = some q' → ∃ q, m d = some q ∧ q'.hd.size = q.hd.size ∧ q'.hd.ptrs = q.hd.ptrs ∧ q'.hd.old = q.hd.old ∧ q'.hd.age = q.hd.age ∧ q'.way = q.way ∧ q'.fl = q.fl ∧ q'.id = q.id
theorem Same.refl (m : Mp) : Same m m := ⟨fun d q h => ⟨q, h, rfl, rfl, rfl, rfl, rfl, rfl, rfl⟩, fun d q h => ⟨q, h, rfl, rfl, rfl, rfl, rfl, rfl, rfl⟩⟩
theorem Same.trans {m m' m2 : Mp} (h : Same m m') (h' : Same m' m2) : Same m m2 := by
  refine ⟨fun d q hq => ?_, fun d q hq => ?_⟩
  · obtain ⟨q1, h1, a1, a2, a3, a4, a5, a6, a7⟩ := h.fwd d q hq
    obtain ⟨q2, h2, b1, b2, b3, b4, b5, b6, b7⟩ := h'.fwd d q1 h1
    exact ⟨q2, h2, b1.trans a1, b2.trans a2, b3.trans a3, b4.trans a4, b5.trans a5, b6.trans a6, b7.trans a7⟩
  · obtain ⟨q1, h1, a1, a2, a3, a4, a5, a6, a7⟩ := h'.back d q hq
    obtain ⟨q2, h2, b1, b2, b3, b4, b5, b6, b7⟩ := h.back d q1 h1
    exact ⟨q2, h2, a1.trans b1, a2.trans b2, a3.trans b3, a4.trans b4, a5.trans b5, a6.trans b6, a7.trans b7⟩
theorem Same.up {m : Mp} {a : Int} {p : OR} (ha : m a = some p) (k : Hd) (h1 : k.size = p.hd.size) (h2 : k.ptrs = p.hd.ptrs) (h3 : k.old = p.hd.old) (h4 : k.age = p.hd.age) : Same m (upM m a { p with hd := k }) := by
  refine ⟨fun d q hq => ?_, fun d q hq => ?_⟩
  · by_cases e : d = a
    · subst e; rw [ha] at hq; cases hq; exact ⟨_, upM_self _ _ _, h1, h2, h3, h4, rfl, rfl, rfl⟩
    · exact ⟨q, by rw [upM_ne _ _ e]; exact hq, rfl, rfl, rfl, rfl, rfl, rfl, rfl⟩
  · rcases up_get hq with ⟨e1, e2⟩ | ⟨_, hq⟩
    · rw [e1, e2]; exact ⟨p, ha, h1, h2, h3, h4, rfl, rfl, rfl⟩
    · exact ⟨q, hq, rfl, rfl, rfl, rfl, rfl, rfl, rfl⟩
section
variable {S : CS} {m : Mp} {R : Nat → Prop} {G : Gr.GS} {ex : Int} {X P : Int → Prop} {kx : Int} {kn : Nat} {Z : Int → Prop}
theorem mark_spec (h : Inv S m R G ex X P kx kn Z) (v : Int) (hv : v = 0 ∨ ∃ p, m v = some p ∧ R p.id) :
    ∃ m' ws gl gz, S.mark v = { S with ws := ws, gl := gl, gz := gz } ∧ Inv { S with ws := ws, gl := gl, gz := gz } m' R G ex X P kx kn Z ∧ Same m m' ∧ (S.ph = 1 → ∀ p, m v = some p → Mkd m' S.par p.id) ∧ (∀ k, Mkd m S.par k → Mkd m' S.par k) ∧ (TbM m S.par S.ph S.tb → TbM m' S.par S.ph S.tb) := by
  have g := h.geo
  have idle : S.mark v = S → (S.ph = 1 → ∀ p, m v = some p → Mkd m S.par p.id) → ∃ m' ws gl gz, S.mark v = { S with ws := ws, gl := gl, gz := gz } ∧ Inv { S with ws := ws, gl := gl, gz := gz } m' R G ex X P kx kn Z ∧ Same m m' ∧ (S.ph = 1 → ∀ p, m v = some p → Mkd m' S.par p.id) ∧ (∀ k, Mkd m S.par k → Mkd m' S.par k) ∧ (TbM m S.par S.ph S.tb → TbM m' S.par S.ph S.tb) :=
    fun e hh => ⟨m, S.ws, S.gl, S.gz, e, h, Same.refl m, hh, fun _ h => h, fun h => h⟩
  by_cases h0 : v = 0 ∨ S.ph ≠ 1
  · refine idle (by unfold CS.mark; rw [if_pos h0]) fun h1 p hp => ?_
    rcases h0 with e | e
    · rw [e, g.nz] at hp; cases hp
    · exact (e h1).elim
  · have v0 : v ≠ 0 := fun e => h0 (.inl e)
    have h1 : S.ph = 1 := Classical.byContradiction fun e => h0 (.inr e)
    obtain ⟨p, hp, hR⟩ := hv.resolve_left v0
    obtain ⟨q, q1, q2, q3⟩ := g.now hp hR
    have en := h.now hp
    have eh := h.hd q1
    by_cases hk : q.hd.par = S.par
    · refine idle (by unfold CS.mark; rw [if_neg h0]; simp only [en, eh]; rw [if_pos hk]) fun _ p' hp' => ?_
      rw [hp] at hp'; cases hp'
      exact ⟨_, q, q1, q3, q2, hk⟩
    · have gd := (g.rep.at_ _ q q1).good
      have p01 := h.mks.p01
      have kg : ({ q.hd with par := S.par, grey := true } : Hd).good := by unfold Hea.Hd.good at gd ⊢; simp only []; omega
      obtain ⟨r1, r2⟩ := g.rep.hd q1 kg rfl
      refine ⟨upM m p.way { q with hd := { q.hd with par := S.par, grey := true } }, shW S.ws p.way { q.hd with par := S.par, grey := true }, Gy.putL S.gl S.gm p.way, S.gz || decide (S.gm ≤ (S.gl.length : Int)), ?_, ⟨g.like (Like.up q1 rfl rfl rfl rfl rfl) r1 r2, h.mn.keep (KeepM.up q1 rfl rfl rfl fun _ _ => rfl), h.sim.keep (KeepS.up q1 rfl rfl rfl rfl rfl), h.mks.mark h1 q1 q2 (q3 ▸ hR) hk⟩, Same.up q1 _ rfl rfl rfl rfl, fun _ p' hp' => ?_, fun k hk' => mark_mkd q1 q2 hk hk', fun t => t.mark q1 q2 hk⟩
      · unfold CS.mark; rw [if_neg h0]; simp only [en, eh]; rw [if_neg hk]; rfl
      · rw [hp] at hp'; cases hp'
        exact ⟨p.way, _, upM_self _ _ _, q3, q2, rfl⟩
theorem note_spec (h : Inv S m R G ex X P kx kn Z) {a : Int} {p : OR} (ha : m a = some p) :
    ∃ m' ws r, S.note a = { S with ws := ws, r := r } ∧ Inv { S with ws := ws, r := r } m' R G ex X P kx kn Z ∧ Same m m' ∧ (∀ i, inThen r i ↔ inThen S.r i) ∧ (TbM m S.par S.ph S.tb → TbM m' S.par S.ph S.tb) ∧ r.left = S.r.left ∧ (p.hd.old = true → ∃ q, m' a = some q ∧ q.hd.noted = true ∧ q.hd.ptrs = p.hd.ptrs ∧ q.fl = p.fl) := by
  have g := h.geo
  have a0 := (g.rng ha)
  have n0 : ¬ a = 0 := by omega
  by_cases hk : (p.hd.old && !p.hd.noted) = true
  · have ho : p.hd.old = true ∧ p.hd.noted = false := by simpa using hk
    have h0 := (g.old ha).1 ho.1
    have gd := (g.rep.at_ a p ha).good
    have kg : ({ p.hd with noted := true } : Hd).good := gd
    obtain ⟨r1, r2⟩ := g.rep.hd ha kg rfl
    have kk : KeepK m (upM m a { p with hd := { p.hd with noted := true } }) R S.par S.ph := KeepK.up ha rfl rfl rfl rfl rfl fun _ i _ => .inl rfl
    refine ⟨upM m a { p with hd := { p.hd with noted := true } }, shW S.ws a { p.hd with noted := true }, S.r.add a, ?_, ⟨g.like (Like.up ha rfl rfl rfl rfl rfl) r1 r2, h.mn.note g.cf ha h0 (by omega), h.sim.keep (KeepS.up ha rfl rfl rfl rfl rfl), h.mks.keep kk⟩, Same.up ha _ rfl rfl rfl rfl, fun i => then_add h.mn.rok a i, fun t => t.keep kk, ?_, fun _ => ⟨_, upM_self _ _ _, rfl, rfl, rfl⟩⟩
    · unfold CS.note; rw [if_neg n0]; simp only [h.hd ha, hk]; rfl
    · unfold Re.RS.left; rw [(h.mn.rok.add a).2.1, (h.mn.rok.add a).2.2]
  · refine ⟨m, S.ws, S.r, ?_, h, Same.refl m, fun i => Iff.rfl, fun t => t, rfl, fun ho => ⟨p, ha, ?_, rfl, rfl⟩⟩
    · unfold CS.note; rw [if_neg n0]; simp only [h.hd ha]; rw [if_neg hk]
    · rw [ho] at hk; simpa using hk
/-- What bits of work of the minor cycle leave as it is. -/
structure Frame (S : CS) (m : Mp) (S' : CS) (m' : Mp) : Prop where
  tbm : TbM m S.par S.ph S.tb → TbM m' S'.par S'.ph S'.tb
  fwd : ∀ d q, m d = some q → ∃ q', m' d = some q' ∧ q'.id = q.id
  here : S'.y.here = S.y.here ∧ S'.y.there = S.y.there ∧ S'.y.left = S.y.left
  c : S'.c = S.c
  tb : S'.tb = S.tb
  par : S'.par = S.par
  ph : S'.ph = S.ph
  mv : S'.mv = S.mv
  scan : S'.scan = S.scan
  look : S'.look = S.look
  gm : S'.gm = S.gm
  gl : S'.gl = S.gl
  gz : S'.gz = S.gz
  ms : (S'.row.length : Int) + S'.y.used - 2 * S'.cop ≤ S.row.length + S.y.used - 2 * S.cop
theorem Frame.refl (S : CS) (m : Mp) : Frame S m S m := ⟨fun h => h, fun _ q h => ⟨q, h, rfl⟩, ⟨rfl, rfl, rfl⟩, rfl, rfl, rfl, rfl, rfl, rfl, rfl, rfl, rfl, rfl, Int.le_refl _⟩
theorem Frame.trans {S S1 S2 : CS} {m m1 m2 : Mp} (h : Frame S m S1 m1) (h' : Frame S1 m1 S2 m2) : Frame S m S2 m2 :=
  ⟨fun t => h'.tbm (h.tbm t), fun d q hq => by
    obtain ⟨q1, h1, e1⟩ := h.fwd d q hq
    obtain ⟨q2, h2, e2⟩ := h'.fwd d q1 h1
    exact ⟨q2, h2, e2.trans e1⟩, ⟨h'.here.1.trans h.here.1, h'.here.2.1.trans h.here.2.1, h'.here.2.2.trans h.here.2.2⟩, h'.c.trans h.c, h'.tb.trans h.tb, h'.par.trans h.par, h'.ph.trans h.ph, h'.mv.trans h.mv, h'.scan.trans h.scan, h'.look.trans h.look, h'.gm.trans h.gm, h'.gl.trans h.gl, h'.gz.trans h.gz, Int.le_trans h'.ms h.ms⟩
theorem Moved.frame {v w : Int} {S' : CS} {m' : Mp} (h : Moved S m R v w S' m') : Frame S m S' m' :=
  ⟨fun t => by rw [h.par, h.ph, h.tb]; exact h.tbm t, h.fwd, h.here, h.c, h.tb, h.par, h.ph, h.mv, h.scan, h.look, h.gm, h.gl, h.gz, h.ms⟩
theorem Frame.yF {S S' : CS} {m m' : Mp} (h : Frame S m S' m') (z : Int) : inF S'.y z ↔ inF S.y z := by unfold inF; rw [h.here.2.1, h.here.2.2]
theorem u64_small {v : Int} (h : 0 ≤ v ∧ v ≤ 1048576) : IntKind.u64.wrap v = v := Ob.wrap_at h.1 h.2
/-- References of an object leave the half that is emptied, one by one. -/
theorem thr_spec {a : Int} (hP : ∀ z, P z → S.c.mat ≤ z) : ∀ (k : Nat) (n : Nat) (f : Bool) (S' : CS) (m' : Mp) (p : OR), S'.c = S.c → Inv S' m' R G a X P 0 0 Z → m' a = some p → ¬ inF S'.y a → S'.mv = true → a ≠ 0 →
    (∀ i : Nat, i < n → ¬ inF S'.y (p.f i)) → (∀ i : Nat, i < n → inT S'.y (p.f i) → f = true) → ((n + k : Nat) : Int) = p.hd.ptrs → (S'.scan ≤ a ∨ S'.c.mat ≤ a) →
    ∃ m2 p2, Inv (CS.thr a k n f S').2 m2 R G a X P 0 0 Z ∧ Frame S' m' (CS.thr a k n f S').2 m2 ∧ m2 a = some p2 ∧ p2.hd = p.hd ∧ (∀ i : Nat, (i : Int) < p2.hd.ptrs → ¬ inF S'.y (p2.f i)) ∧ (∀ i : Nat, (i : Int) < p2.hd.ptrs → inT (CS.thr a k n f S').2.y (p2.f i) → (CS.thr a k n f S').1 = true) ∧ (CS.thr a k n f S').2.r = S'.r := by
  intro k
  induction k with
  | zero =>
    intro n f S' m' p hc h ha hf hm a0 hF hT hn hs
    exact ⟨m', p, h, Frame.refl _ _, ha, rfl, fun i hi => hF i (by omega), fun i hi ht => hT i (by omega) ht, rfl⟩
  | succ k ih =>
    intro n f S' m' p hc h ha hf hm a0 hF hT hn hs
    have g := h.geo
    have hw := g.here ha hf
    have gd := (g.rep.at_ a p ha).good
    unfold Hea.Hd.good at gd
    have rfn := h.mn.refs a p ha hw n (by omega)
    have ex := h.ref (n := n) ha (by omega) (by omega) rfn
    simp only [Int.toNat_natCast] at ex
    obtain ⟨m1, h1, M⟩ := move_spec h (p.f n) (fun hf => by
      rcases rfn with e | ⟨q, hq, _⟩ | e
      · have := g.low (.inr hf); omega
      · exact ⟨q, hq⟩
      · have := g.low (.inr hf); omega) (by rw [hc]; exact hP)
    unfold CS.thr
    simp only [ex]
    obtain ⟨w, hw1⟩ : ∃ w, (S'.move (p.f n)).1 = w := ⟨_, rfl⟩
    obtain ⟨S1, hS1⟩ : ∃ S1, (S'.move (p.f n)).2 = S1 := ⟨_, rfl⟩
    rw [hw1, hS1] at M
    rw [hS1] at h1
    simp only [hw1, hS1]
    have ha1 := M.own a p hf ha
    have hf1 : ¬ inF S1.y a := fun e => hf ((M.yF a).1 e)
    have rw1 := M.rf rfn
    have g1 := h1.geo
    have sm := rw1.small (g := by rw [← M.c]; exact g1)
    have us : S1.y.used ≤ S'.c.n := by rw [← M.c]; exact g1.y1.2
    -- what the field is then
    have step : ∃ (S2 : CS) (m2 : Mp) (p2 : OR), (if w ≠ p.f n then ({ S1 with ws := Ob.stW S1.ws (Ob.placeOf a n) (IntKind.u64.wrap w) } : CS) else S1) = S2 ∧ Inv S2 m2 R G a X P 0 0 Z ∧ Frame S' m' S2 m2 ∧ m2 a = some p2 ∧ p2.hd = p.hd ∧ p2.f n = w ∧ (∀ i, i ≠ n → p2.f i = p.f i) ∧ S2.y = S1.y ∧ S2.r = S'.r := by
      by_cases e : w = p.f n
      · rw [if_neg (fun hh => hh e)]
        exact ⟨S1, m1, p, rfl, h1, M.frame, ha1, rfl, e.symm, fun _ _ => rfl, rfl, M.r⟩
      · rw [if_pos e, u64_small sm]
        have isF : inF S'.y (p.f n) := Classical.byContradiction fun hn => e (M.idle hn).1
        have np : (n : Int) < p.hd.size := by omega
        obtain ⟨r1, r2⟩ := g1.rep.set (n := n) ha1 (by omega) np w
        rw [Int.toNat_natCast] at r1
        have hl := (g.rep.at_ a p ha).len
        have fs := f_set p n w
        have kk : KeepK m1 (upM m1 a { p with fl := p.fl.set n w }) R S1.par S1.ph := KeepK.up ha1 rfl rfl rfl rfl rfl fun hR i hi => by
          by_cases ei : i = n
          · right
            intro r hr
            left
            have e1 : ({ p with fl := p.fl.set n w } : OR).f i = w := by unfold OR.f; rw [fs, if_pos ⟨ei, by omega⟩]
            rw [e1] at hr
            have nd := h.sim.node a p ha hR hw
            rcases nd.refs n (by have := nd.ptrs; omega) with ⟨e0, _⟩ | ⟨_, hRq, q, hq, eq⟩
            · have := g.low (.inr isF); omega
            · obtain ⟨q1, t1, t2⟩ := M.tgt q hq (eq ▸ hRq)
              rw [hr] at t1; cases t1
              obtain ⟨q2, t3, t4⟩ := M.fwd _ q hq
              exact ⟨q2, by rw [ei]; exact t3, by rw [t4, t2]⟩
          · left
            unfold OR.f; rw [fs, if_neg (fun hh => ei hh.1)]; rfl
        refine ⟨_, upM m1 a { p with fl := p.fl.set n w }, { p with fl := p.fl.set n w }, rfl, ⟨g1.like (Like.up ha1 rfl rfl rfl rfl rfl) r1 r2, h1.mn.fld ha1 n w (by rw [M.c]; exact rw1) (fun _ => rfl) (fun _ ht hs' => ?_), h1.sim.fld ha1 n w (by omega) (fun q hq => M.den q (?_)), h1.mks.keep kk⟩, ?_, upM_self _ _ _, rfl, ?_, fun i hi => ?_, rfl, M.r⟩
        · intro hh; exact M.nF.2 hh
        · rcases hq with hq | ⟨q1, q2, p1, q3, q4⟩
          · exact .inl hq
          · rcases rfn with e0 | ⟨q0, hq0, _⟩ | e0
            · have := g.low (.inr isF); omega
            · obtain ⟨q5, t3, t4⟩ := M.fwd _ q0 hq0
              rw [q3] at t3; cases t3
              exact .inr ⟨q1, q2, q0, hq0, by rw [← t4, q4]⟩
            · have := g.low (.inr isF); omega
        · have F := M.frame
          refine ⟨fun t => (F.tbm t).keep kk, fun d q hq => ?_, F.here, F.c, F.tb, F.par, F.ph, F.mv, F.scan, F.look, F.gm, F.gl, F.gz, F.ms⟩
          obtain ⟨q1, t1, t2⟩ := M.fwd d q hq
          obtain ⟨q2, t3, t4, _⟩ := kk.fwd d q1 t1
          exact ⟨q2, t3, t4.trans t2⟩
        · unfold OR.f; rw [fs, if_pos ⟨rfl, by omega⟩]
        · unfold OR.f; rw [fs, if_neg (fun hh => hi hh.1)]; rfl
    obtain ⟨S2, m2, p2, e2, h2, F2, ha2, hd2, fn2, fi2, y2, r2⟩ := step
    rw [e2]
    have hA : ∀ i : Nat, i < n + 1 → ¬ inF S2.y (p2.f i) := fun i hi => by
      rw [F2.yF]
      by_cases e : i = n
      · rw [e, fn2]; intro hh; exact M.nF.2 ((M.yF _).2 hh)
      · rw [fi2 i e]; exact hF i (by omega)
    have hB : ∀ i : Nat, i < n + 1 → inT S2.y (p2.f i) → (f || S2.y.isIn w) = true := fun i hi ht => by
      by_cases e : i = n
      · rw [e, fn2] at ht; rw [isIn_iff.2 ht]; simp
      · rw [fi2 i e, y2] at ht
        have rfi := h.mn.refs a p ha hw i (by omega)
        rw [hT i (by omega) (rfi.notT g M.here.1 us ht)]; rfl
    obtain ⟨m3, p3, h3, F3, ha3, hd3, c1, c2, c3⟩ := ih (n + 1) (f || S2.y.isIn w) S2 m2 p2 (F2.c.trans hc) h2 ha2 (fun e => hf ((F2.yF a).1 e)) (F2.mv.trans hm) a0 hA hB (by rw [hd2]; omega) (by rw [F2.scan, F2.c]; exact hs)
    exact ⟨m3, p3, h3, F2.trans F3, ha3, hd3.trans hd2, fun i hi hh => c1 i hi ((F2.yF _).2 hh), c2, c3.trans r2⟩
end
end Go.Proofs.YtihmkkjmnbehbaaGreat.Wh
