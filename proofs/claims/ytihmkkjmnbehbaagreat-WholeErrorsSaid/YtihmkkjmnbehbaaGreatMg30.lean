/- Texts of the whole heap, joined: WqL WqM. No condition beside those that each lemma names. -/
import Derived.Test.YtihmkkjmnbehbaaGreatMg29
/- The minor cycle keeps what holds of a heap. No condition. -/
set_option linter.unusedVariables false
set_option linter.unusedSimpArgs false
namespace Go.Proofs.YtihmkkjmnbehbaaGreat.Wh
open Go.RowKit Go.Proofs.YtihmkkjmnbehbaaGreat.W
abbrev non : Int → Prop := fun _ => False
/-- Pages that are looked through still for lost ones. -/
def lookP (S : CS) : Int → Prop := fun a => 0 ≤ S.look ∧ S.c.mat + S.look * S.c.w ≤ a
section
variable {S : CS} {m : Mp} {R : Nat → Prop} {G : Gr.GS} {ex : Int} {X P : Int → Prop} {kx : Int} {kn : Nat} {Z : Int → Prop}
theorem lookP_mat (h : CFok S.c) : ∀ z, lookP S z → S.c.mat ≤ z := fun z hz => by
  obtain ⟨h1, h2⟩ := hz
  have := Int.mul_nonneg h1 (by have := h.w0; omega : 0 ≤ S.c.w)
  omega
theorem lookP_eq {S' : CS} (h1 : S'.look = S.look) (h2 : S'.c = S.c) : lookP S' = lookP S := by unfold lookP; rw [h1, h2]
theorem Mn.dropX {c : CF} {y : Bp.Sp} {mv : Bool} {scan cop : Int} {r : Re.RS} {row : List Int} {X' : Int → Prop} (h : Mn c y mv scan cop r row m ex X) (hx : ∀ a p, m a = some p → p.hd.noted = true → c.mat ≤ a → X a → X' a) : Mn c y mv scan cop r row m ex X' :=
  ⟨h.rok, h.refs, h.scF, fun a p hp h0 he i hi hf => (h.oldF a p hp h0 he i hi hf).imp_right fun ⟨e, e'⟩ => ⟨e, e'.imp_right (hx a p hp e h0)⟩,
   fun a p hp h0 he i hi hf => (h.oldT a p hp h0 he i hi hf).imp_right fun ⟨e, e'⟩ => ⟨e, e'.imp_right fun e' => e'.imp_right (hx a p hp e h0)⟩,
   fun a p hp hn => by obtain ⟨e, e'⟩ := h.ntd a p hp hn; exact ⟨e, e'.imp_right fun e' => e'.imp_right (hx a p hp hn e)⟩, h.rowm, h.rowl, h.idle⟩
theorem Mn.closeN {c : CF} {y : Bp.Sp} {mv : Bool} {scan cop : Int} {r : Re.RS} {row : List Int} {a : Int} (h : Mn c y mv scan cop r row m a X) (ha : m a = none) : Mn c y mv scan cop r row m 0 X := by
  have ne : ∀ {d p}, m d = some p → d ≠ a := fun hp e => by rw [e, ha] at hp; cases hp
  exact ⟨h.rok, h.refs, h.scF, fun d p hp h0 he => h.oldF d p hp h0 (ne hp), fun d p hp h0 he => h.oldT d p hp h0 (ne hp), h.ntd, h.rowm, h.rowl, h.idle⟩
theorem Inv.open_ (h : Inv S m R G 0 X P kx kn Z) (a : Int) : Inv S m R G a X P kx kn Z := ⟨h.geo, h.mn.open_ h.geo.cf a, h.sim, h.mks⟩
theorem has_m (h : Inv S m R G ex X P kx kn Z) {a : Int} (h0 : S.c.mat ≤ a) : S.o.has a = true ↔ ∃ p, m a = some p := by
  refine ⟨h.geo.all a, fun ⟨p, hp⟩ => ?_⟩
  rcases h.geo.cls hp with e | e | ⟨_, e⟩
  · have := h.geo.low (.inl e); omega
  · have := h.geo.low (.inr e); omega
  · exact e
theorem through_spec {a : Int} {p : OR} (h : Inv S m R G a X P 0 0 Z) (hP : ∀ z, P z → S.c.mat ≤ z) (ha : m a = some p) (hf : ¬ inF S.y a) (hm : S.mv = true) (hs : S.scan ≤ a ∨ S.c.mat ≤ a) :
    ∃ m' p', Inv (S.through a).2 m' R G 0 X P 0 0 Z ∧ Frame S m (S.through a).2 m' ∧ (S.through a).1 = p.n ∧ m' a = some p' ∧ p'.n = p.n ∧ (∀ i : Nat, (i : Int) < p'.hd.ptrs → ¬ inF S.y (p'.f i)) ∧ (∀ x, inThen (S.through a).2.r x ↔ inThen S.r x) ∧ (S.through a).2.r.left = S.r.left := by
  have g := h.geo
  have gd := (g.rep.at_ a p ha).good
  unfold Hea.Hd.good at gd
  have a0 : a ≠ 0 := by have := g.rng ha; omega
  have e1 : (S.through a).1 = p.n := by unfold CS.through; exact h.words ha
  have T := thr_spec (a := a) (S := S) (X := X) (R := R) (G := G) (Z := Z) hP p.hd.ptrs.toNat 0 false S m p rfl h ha hf hm a0 (fun i hi => by omega) (fun i hi => by omega) (by omega) hs
  rw [show ((0 : Nat) : Int) = 0 from rfl] at T
  obtain ⟨m1, p1, h1, F1, ha1, hd1, c1, c2, c3⟩ := T
  have e2 : (S.through a).2 = (if (CS.thr a p.hd.ptrs.toNat 0 false S).1 then (CS.thr a p.hd.ptrs.toNat 0 false S).2.note a else (CS.thr a p.hd.ptrs.toNat 0 false S).2) := by unfold CS.through; simp only [h.hd ha]
  rw [e1, e2]
  obtain ⟨f, hf'⟩ : ∃ f, (CS.thr a p.hd.ptrs.toNat 0 false S).1 = f := ⟨_, rfl⟩
  obtain ⟨S1, hS1⟩ : ∃ S1, (CS.thr a p.hd.ptrs.toNat 0 false S).2 = S1 := ⟨_, rfl⟩
  rw [hf', hS1] at c2
  rw [hS1] at h1 F1 c3
  rw [hf', hS1]
  have pn : p1.n = p.n := by unfold OR.n; rw [hd1]
  cases f with
  | false =>
    rw [if_neg (by simp)]
    refine ⟨m1, p1, ⟨h1.geo, h1.mn.close ha1 (fun i hi hh => c1 i hi ((F1.yF _).1 hh)) (fun _ ⟨i, hi, ht⟩ => by have := c2 i hi ht; cases this), h1.sim, h1.mks⟩, F1, rfl, ha1, pn, c1, fun x => by rw [c3], by rw [c3]⟩
  | true =>
    rw [if_pos rfl]
    obtain ⟨m2, ws, r, n1, n2, n3, n4, n5, n6, n7⟩ := note_spec h1 ha1
    obtain ⟨p2, q1, q2, q3, q4, q5, q6, q7, q8⟩ := n3.fwd a p1 ha1
    have ff : ∀ i, p2.f i = p1.f i := fun i => by unfold OR.f; rw [q7]
    rw [n1]
    refine ⟨m2, p2, ⟨n2.geo, n2.mn.close q1 (fun i hi hh => ?_) (fun h0 _ => ?_), n2.sim, n2.mks⟩, F1.trans ⟨n5, fun d q hq => ?_, ⟨rfl, rfl, rfl⟩, rfl, rfl, rfl, rfl, rfl, rfl, rfl, rfl, rfl, rfl, Int.le_refl _⟩, rfl, q1, by unfold OR.n at pn ⊢; omega, fun i hi => ?_, fun x => by rw [← c3]; exact n4 x, by rw [← c3]; exact n6⟩
    · rw [ff] at hh; exact c1 i (by omega) ((F1.yF _).1 hh)
    · obtain ⟨q, t1, t2, _⟩ := n7 ((h1.geo.old ha1).2 (by have := F1.c; exact h0))
      rw [q1] at t1; cases t1; exact t2
    · obtain ⟨q', t1, t2⟩ := n3.fwd d q hq; exact ⟨q', t1, t2.2.2.2.2.2.2⟩
    · rw [ff]; exact c1 i (by omega)
theorem noted_spec {x : Int} {X' : Int → Prop} (h : Inv S m R G 0 X P 0 0 Z) (hP : ∀ z, P z → S.c.mat ≤ z) (hm : S.mv = true) (hX : ∀ z, z ≠ x → X z → X' z) :
    ∃ m', Inv (S.noted x).2 m' R G 0 X' P 0 0 Z ∧ Frame S m (S.noted x).2 m' ∧ 0 ≤ (S.noted x).1 ∧ (S.noted x).1 ≤ 66 ∧ (S.noted x).2.r.left = S.r.left := by
  have g := h.geo
  by_cases hh : S.o.has x = true
  · obtain ⟨p, hp⟩ := g.all x hh
    have h0 := (g.hasm hh).1
    have hf : ¬ inF S.y x := fun e => by have := g.low (.inr e); omega
    by_cases hn : p.hd.noted = true
    · have gd := (g.rep.at_ x p hp).good
      have kg : ({ p.hd with noted := false } : Hd).good := gd
      obtain ⟨r1, r2⟩ := g.rep.hd hp kg rfl
      have kk : KeepK m (upM m x { p with hd := { p.hd with noted := false } }) R S.par S.ph := KeepK.up hp rfl rfl rfl rfl rfl fun _ i _ => .inl rfl
      have e : S.noted x = (S.setHd x { p.hd with noted := false }).through x := by
        unfold CS.noted; rw [if_neg (by rw [hh]; simp), h.hd hp, if_neg (by rw [hn]; simp)]
      rw [e]
      have i1 : Inv (S.setHd x { p.hd with noted := false }) (upM m x { p with hd := { p.hd with noted := false } }) R G x X' P 0 0 Z :=
        ⟨g.like (Like.up hp rfl rfl rfl rfl rfl) r1 r2, (h.mn.open_ g.cf x).unnote hp hX, h.sim.keep (KeepS.up hp rfl rfl rfl rfl rfl), h.mks.keep kk⟩
      obtain ⟨m', p', j1, j2, j3, j4, j5, j6, j7, j8⟩ := through_spec i1 hP (upM_self _ _ _) hf hm (.inr h0)
      have n2 := (g.rep.at_ x p hp).n2
      have F0 : Frame S m (S.setHd x { p.hd with noted := false }) (upM m x { p with hd := { p.hd with noted := false } }) := ⟨fun t => t.keep kk, fun d q hq => by
        obtain ⟨q', t1, t2, _⟩ := kk.fwd d q hq; exact ⟨q', t1, t2⟩, ⟨rfl, rfl, rfl⟩, rfl, rfl, rfl, rfl, rfl, rfl, rfl, rfl, rfl, rfl, Int.le_refl _⟩
      refine ⟨m', j1, F0.trans j2, ?_, ?_, j8⟩
      · rw [j3]; show 0 ≤ p.n; omega
      · rw [j3]; show p.n ≤ 66; omega
    · have e : S.noted x = (0, S) := by
        unfold CS.noted; rw [if_neg (by rw [hh]; simp), h.hd hp, if_pos (by simpa using hn)]
      rw [e]
      exact ⟨m, ⟨g, h.mn.dropX (fun a q hq hn' _ hx => hX a (fun e => by rw [e, hp] at hq; cases hq; exact hn hn') hx), h.sim, h.mks⟩, Frame.refl _ _, Int.le_refl 0, (by omega : (0 : Int) ≤ 66), rfl⟩
  · have e : S.noted x = (0, S) := by unfold CS.noted; rw [if_pos (by simpa using hh)]
    rw [e]
    exact ⟨m, ⟨g, h.mn.dropX (fun a q hq _ h0 hx => hX a (fun e => by rw [e] at hq h0; exact hh ((has_m h h0).2 ⟨q, hq⟩)) hx), h.sim, h.mks⟩, Frame.refl _ _, Int.le_refl 0, (by omega : (0 : Int) ≤ 66), rfl⟩
theorem partL_spec (hP : ∀ z, P z → S.c.mat ≤ z) : ∀ (L : List Int) (n : Int) (S' : CS) (m' : Mp), S'.c = S.c → Inv S' m' R G 0 (fun z => z ∈ L) P 0 0 Z → S'.mv = true →
    ∃ m2, Inv (CS.partL L n S').2 m2 R G 0 non P 0 0 Z ∧ Frame S' m' (CS.partL L n S').2 m2 ∧ n ≤ (CS.partL L n S').1 ∧ (CS.partL L n S').1 ≤ n + 66 * L.length ∧ (CS.partL L n S').2.r.left = S'.r.left := by
  intro L
  induction L with
  | nil =>
    intro n S' m' hc h hm
    refine ⟨m', ⟨h.geo, h.mn.dropX (fun _ _ _ _ _ hx => by cases hx), h.sim, h.mks⟩, Frame.refl _ _, Int.le_refl n, ?_, rfl⟩
    show n ≤ n + 66 * (0 : Nat); omega
  | cons x r ih =>
    intro n S' m' hc h hm
    obtain ⟨m1, i1, F1, n1, n2, n3⟩ := noted_spec (x := x) (X' := fun z => z ∈ r) h (by rw [hc]; exact hP) hm (fun z hz hx => (List.mem_cons.1 hx).resolve_left hz)
    obtain ⟨m2, i2, F2, k1, k2, k3⟩ := ih (n + (S'.noted x).1) (S'.noted x).2 m1 (F1.c.trans hc) i1 (F1.mv.trans hm)
    unfold CS.partL
    refine ⟨m2, i2, F1.trans F2, by omega, ?_, k3.trans n3⟩
    simp only [List.length_cons]; omega
end
/-- What holds of a heap between calls. -/
structure Good (S : CS) (m : Mp) (R : Nat → Prop) (G : Gr.GS) : Prop where
  inv : Inv S m R G 0 non (lookP S) 0 0 non
  nof : NoF S.y S.tb
  tbm : TbM m S.par S.ph S.tb
section
variable {S : CS} {m : Mp} {R : Nat → Prop} {G : Gr.GS}
theorem Good.frame {S' : CS} {m' : Mp} (h : Good S m R G) (hi : Inv S' m' R G 0 non (lookP S) 0 0 non) (F : Frame S m S' m') : Good S' m' R G :=
  ⟨by rw [lookP_eq F.look F.c]; exact hi, fun x hx => by rw [F.yF]; rw [F.tb] at hx; exact h.nof x hx, F.tbm h.tbm⟩
/-- Handles' objects leave the half that is emptied. -/
theorem moveT_spec {P : Int → Prop} {c : CF} (hP : ∀ z, P z → c.mat ≤ z) : ∀ (L D : List Int) (S : CS) (m : Mp), S.c = c → S.tb = D ++ L → NoF S.y D → Inv S m R G 0 non P 0 0 non → TbM m S.par S.ph S.tb →
    ∃ m', Inv (CS.moveT L D.length S) m' R G 0 non P 0 0 non ∧ NoF (CS.moveT L D.length S).y (CS.moveT L D.length S).tb ∧ TbM m' (CS.moveT L D.length S).par (CS.moveT L D.length S).ph (CS.moveT L D.length S).tb ∧ (CS.moveT L D.length S).look = S.look ∧ (CS.moveT L D.length S).c = S.c ∧ (CS.moveT L D.length S).mv = S.mv := by
  intro L
  induction L with
  | nil =>
    intro D S m hc ht hn h hb
    rw [List.append_nil] at ht
    exact ⟨m, h, by show NoF S.y S.tb; rw [ht]; exact hn, hb, rfl, rfl, rfl⟩
  | cons a r ih =>
    intro D S m hc ht hn h hb
    have hD : D.length < S.tb.length := by rw [ht]; simp
    have ga : S.tb[D.length]?.getD 0 = a := by rw [ht]; simp
    have dn := h.sim.tbD D.length hD
    rw [ga] at dn
    obtain ⟨m1, h1, M⟩ := move_spec h a (fun hf => by
      rcases dn with e | ⟨_, _, p, hp, _⟩
      · have := h.geo.low (.inr hf); omega
      · exact ⟨p, hp⟩) (by rw [hc]; exact hP)
    unfold CS.moveT
    obtain ⟨w, hw1⟩ : ∃ w, (S.move a).1 = w := ⟨_, rfl⟩
    obtain ⟨S1, hS1⟩ : ∃ S1, (S.move a).2 = S1 := ⟨_, rfl⟩
    rw [hw1, hS1] at M
    rw [hS1] at h1
    rw [hw1, hS1]
    have es : S1.set D.length w = { S1 with tb := S1.tb.set D.length w } := by
      unfold CS.set Tab.sets
      rw [if_pos (by rw [M.tb]; omega), Int.toNat_natCast]
    rw [es]
    have hl := h.sim.hl
    have eG : ({ G with hs := G.hs.set D.length (G.hs[D.length]?.getD 0) } : Gr.GS) = G := by
      have : G.hs.set D.length (G.hs[D.length]?.getD 0) = G.hs := by
        apply List.ext_getElem?
        intro j
        by_cases e : D.length = j
        · subst e; rw [List.getElem?_set_self (by omega), List.getElem?_eq_getElem (by omega)]; rfl
        · rw [List.getElem?_set_ne e]
      rw [this]
    have hq : G.hs[D.length]?.getD 0 ≤ G.nodes.length := by
      rw [List.getElem?_eq_getElem (by omega)]; exact h.sim.gok.hs _ (List.getElem_mem (by omega))
    have s2 := h1.sim.tab D.length (M.den _ dn) hq
    rw [eG] at s2
    have t2 : ({ S1 with tb := S1.tb.set D.length w } : CS).tb = (D ++ [w]) ++ r := by
      show S1.tb.set D.length w = _
      rw [M.tb, ht, List.set_append_right _ _ (Nat.le_refl _)]; simp
    have tm : TbM m1 S1.par S1.ph (S1.tb.set D.length w) := fun hp x hx q hq' => by
      have hb1 := M.frame.tbm hb
      rcases List.mem_or_eq_of_mem_set hx with hx | rfl
      · exact hb1 hp x hx q hq'
      · rcases dn with ⟨e, _⟩ | ⟨_, hRp, p, hp', e⟩
        · rw [M.nF.1 e, h1.geo.nz] at hq'; cases hq'
        · obtain ⟨q1, t1, t3⟩ := M.tgt p hp' (e ▸ hRp)
          rw [hq'] at t1; cases t1
          rw [t3, M.par]
          refine M.mkd _ (hb (by rw [← M.ph]; exact hp) a ?_ p hp')
          rw [ht]; simp
    obtain ⟨m2, i2, j1, j2, j3, j4, j5⟩ := ih (D ++ [w]) { S1 with tb := S1.tb.set D.length w } m1 (M.c.trans hc) t2 (fun x hx => by
      show ¬ inF S1.y x
      rcases List.mem_append.1 hx with hx | hx
      · rw [M.yF]; exact hn x hx
      · rw [List.mem_singleton] at hx; rw [hx]; exact M.nF.2) ⟨h1.geo, h1.mn, s2, h1.mks⟩ tm
    rw [List.length_append] at i2 j1 j2 j3 j4 j5
    simp only [List.length_singleton] at i2 j1 j2 j3 j4 j5
    exact ⟨m2, i2, j1, j2, j3.trans M.look, j4.trans M.c, j5.trans M.mv⟩
theorem Good.minStart (h : Good S m R G) : ∃ m', Good S.minStart.2 m' R G ∧ S.minStart.2.c = S.c ∧ S.minStart.2.mv = true ∧ S.minStart.1 = !S.mv := by
  by_cases hm : S.mv = true
  · have e : S.minStart = (false, S) := by unfold CS.minStart; rw [if_pos hm]
    rw [e]; exact ⟨m, h, rfl, hm, by rw [hm]; rfl⟩
  · have hm : S.mv = false := by simpa using hm
    have g := h.inv.geo
    have mn := h.inv.mn
    rw [hm] at g mn
    have hl := g.nmv rfl
    have e : S.minStart = (true, CS.moveT S.tb 0 { S with y := S.y.flip, r := S.r.flip, mv := true, cop := 0, row := [], scan := S.y.flip.here }) := by
      unfold CS.minStart; rw [if_neg (by rw [hm]; simp), if_neg (by omega)]
    rw [e]
    have i1 : Inv { S with y := S.y.flip, r := S.r.flip, mv := true, cop := 0, row := [], scan := S.y.flip.here } m R G 0 non (lookP S) 0 0 non := ⟨g.flip, mn.flip g, h.inv.sim, h.inv.mks⟩
    obtain ⟨m2, i2, j1, j2, j3, j4, j5⟩ := moveT_spec (c := S.c) (lookP_mat g.cf) S.tb [] { S with y := S.y.flip, r := S.r.flip, mv := true, cop := 0, row := [], scan := S.y.flip.here } m rfl rfl (fun x hx => by cases hx) i1 h.tbm
    dsimp only
    refine ⟨m2, ⟨?_, j1, j2⟩, j4, j5, by rw [hm]; rfl⟩
    have e2 := lookP_eq j3 j4
    simp only [List.length_nil] at e2
    rw [e2]; exact i2
end
end Go.Proofs.YtihmkkjmnbehbaaGreat.Wh
/- A bit of the minor cycle, and many, keep what holds of a heap; each is less than the one ahead. No condition. -/
set_option linter.unusedVariables false
set_option linter.unusedSimpArgs false
namespace Go.Proofs.YtihmkkjmnbehbaaGreat.Wh
open Go.RowKit Go.Proofs.YtihmkkjmnbehbaaGreat.W
section
variable {S : CS} {m : Mp} {R : Nat → Prop} {G : Gr.GS} {X P : Int → Prop} {Z : Int → Prop}
theorem got_all (L : List Int) {gm : Int} (h : (L.length : Int) ≤ gm) : Gy.got L gm L.length = L := by
  unfold Gy.got
  rw [List.take_length, List.take_of_length_le (by omega)]
theorem finish_spec (h : Good S m R G) (hm : S.mv = true) (hr : S.row = []) (hl : S.r.left ≤ 0) (hs : S.y.here + S.y.used ≤ S.scan) : Good S.finish (dropM m S.y) (liveR m S.y R) G ∧ S.finish.c = S.c ∧ S.finish.mv = false := by
  have g := h.inv.geo
  have mn := h.inv.mn
  rw [hr] at mn
  obtain ⟨L, hL⟩ : ∃ L, (S.gl.map S.now).filter (fun t => !S.y.isFrom t) = L := ⟨_, rfl⟩
  have hlen : L.length ≤ S.gl.length := by rw [← hL]; exact Nat.le_trans (List.length_filter_le _ _) (by simp)
  have gll := h.inv.mks.gll
  have e1 := got_all L (gm := S.gm) (by omega)
  have e : S.finish = { S with gl := L, y := S.y.drop, mv := false, cop := 0, d := { S.d with mi := wrap64 (S.d.mi + 1) } } := by
    unfold CS.finish
    simp only [hL, e1]
    rw [decide_eq_false (by omega)]
    simp
  have hg : ∀ z, z ∈ L ↔ ¬ inF S.y z ∧ ∃ s q, s ∈ S.gl ∧ m s = some q ∧ q.way = z := fun z => by
    rw [← hL, List.mem_filter, List.mem_map]
    constructor
    · rintro ⟨⟨s, s1, s2⟩, s3⟩
      obtain ⟨q, q1, _⟩ := h.inv.mks.glR s s1
      refine ⟨isFrom_not.1 (by simpa using s3), s, q, s1, q1, ?_⟩
      rw [← h.inv.now q1]; exact s2
    · rintro ⟨hz, s, q, s1, q1, q2⟩
      exact ⟨⟨s, s1, by rw [h.inv.now q1]; exact q2⟩, by rw [isFrom_not.2 hz]; rfl⟩
  have nf : ∀ a p, m a = some p → ¬ inF S.y a → ∀ i : Nat, (i : Int) < p.hd.ptrs → ¬ inF S.y (p.f i) := fun a p hp ha i hi => mn.noF g hm hs hl hp ha i hi
  rw [e]
  refine ⟨⟨⟨g.drop, ?_, h.inv.sim.drop g h.nof nf, ?_⟩, fun x hx => ?_, h.tbm.drop g⟩, rfl, rfl⟩
  · have := mn.drop g hm hs hl
    show Mn S.c S.y.drop false S.scan 0 S.r S.row (dropM m S.y) 0 non
    rw [hr]; exact this
  · exact h.inv.mks.drop g nf (by show (L.length : Int) ≤ S.gm; omega) hg
  · have := (drop_y S.y).2.2.2.1
    unfold inF; simp only [this]; omega
/-- How much is to be done still. -/
def mms (S : CS) : Int := S.row.length + S.y.here + S.y.used - S.scan + 2 * (S.y.left - S.cop) + S.r.left
theorem Good.mms_nn (h : Good S m R G) (hm : S.mv = true) : 0 ≤ mms S := by
  have g := h.inv.geo
  have := g.sc hm
  obtain ⟨L, hL, hu⟩ := g.fch
  have u := hu hm
  have s : 0 ≤ unm m L := sum_nn (f := uw m) (L := L) (fun z => uw_nn g.rep z)
  have hl : 0 ≤ S.r.left := Int.natCast_nonneg _
  unfold mms; omega
theorem step_nil (hm : S.mv = true) (hr : S.row = []) : S.minStep =
    (if S.r.said.2.2 then (if S.r.said.2.1 then (((CS.part { S with r := S.r.next } S.r.said.1.1 S.r.said.1.2).1 + 1, true), (CS.part { S with r := S.r.next } S.r.said.1.1 S.r.said.1.2).2) else (((CS.noted { S with r := S.r.next } S.r.said.1.1).1 + 1, true), (CS.noted { S with r := S.r.next } S.r.said.1.1).2))
    else if S.scan < S.y.here + S.y.used then (((CS.through { S with r := S.r.next } S.scan).1, true), { (CS.through { S with r := S.r.next } S.scan).2 with scan := wrap64 ((CS.through { S with r := S.r.next } S.scan).2.scan + (CS.through { S with r := S.r.next } S.scan).1) })
    else ((2, false), CS.finish { S with r := S.r.next })) := by
  unfold CS.minStep
  rw [if_neg (by rw [hm]; simp)]
  split
  · rename_i e; rw [hr] at e; cases e
  · rfl
theorem step_cons (hm : S.mv = true) {a : Int} {r : List Int} (hr : S.row = a :: r) : S.minStep = (if S.o.has a = false then ((2, true), { S with row := r }) else (((CS.through { S with row := r } a).1 + 1, true), (CS.through { S with row := r } a).2)) := by
  unfold CS.minStep
  rw [if_neg (by rw [hm]; simp)]
  split
  · rename_i e; rw [hr] at e; cases e; rfl
  · rename_i e; rw [hr] at e; cases e
/-- A bit of it. -/
theorem Good.minStep (h : Good S m R G) : ∃ m' R', Good S.minStep.2 m' R' G ∧ S.minStep.2.c = S.c ∧ (S.mv = false → S.minStep = ((0, false), S)) ∧
    (S.mv = true → 0 ≤ S.minStep.1.1 ∧ S.minStep.1.1 ≤ 1100000 ∧ ((S.minStep.1.2 = true ∧ S.minStep.2.mv = true ∧ mms S.minStep.2 < mms S) ∨ (S.minStep.1.2 = false ∧ S.minStep.2.mv = false))) := by
  have g := h.inv.geo
  have hP := lookP_mat g.cf
  by_cases hm : S.mv = true
  · have nm : ¬ S.mv = false := by rw [hm]; simp
    have sc := g.sc hm
    cases hrow : S.row with
    | cons a r =>
      have rm := (h.inv.mn.rowm a (by rw [hrow]; exact List.mem_cons_self)).1
      have mn := h.inv.mn
      rw [hrow] at mn
      have i1 : Inv { S with row := r } m R G a non (lookP S) 0 0 non := ⟨g, mn.pop g.cf, h.inv.sim, h.inv.mks⟩
      by_cases hh : S.o.has a = true
      · obtain ⟨p, hp⟩ := g.all a hh
        have hf : ¬ inF S.y a := fun e => by have := g.low (.inr e); omega
        obtain ⟨m', p', j1, j2, j3, j4, j5, j6, j7, j8⟩ := through_spec i1 hP hp hf hm (.inr rm)
        have e : S.minStep = (((CS.through { S with row := r } a).1 + 1, true), (CS.through { S with row := r } a).2) := by
          rw [step_cons hm hrow, if_neg (by rw [hh]; simp)]
        have n2 := (g.rep.at_ a p hp).n2
        rw [e]
        dsimp only
        refine ⟨m', R, ⟨by rw [lookP_eq j2.look j2.c]; exact j1, fun x hx => by rw [j2.yF]; rw [j2.tb] at hx; exact h.nof x hx, j2.tbm h.tbm⟩, j2.c, (fun hh => by rw [hm] at hh; cases hh), fun _ => ⟨by omega, by omega, .inl ⟨rfl, j2.mv.trans hm, ?_⟩⟩⟩
        have ms := j2.ms
        unfold mms
        rw [j2.here.1, j2.here.2.2, j2.scan, j8, hrow]
        simp only [List.length_cons] at ms ⊢
        omega
      · have e : S.minStep = ((2, true), { S with row := r }) := by
          rw [step_cons hm hrow, if_pos (by simpa using hh)]
        have ha : m a = none := by
          cases hp : m a with
          | none => rfl
          | some p => exact (hh ((has_m h.inv rm).2 ⟨p, hp⟩)).elim
        rw [e]
        dsimp only
        refine ⟨m, R, ⟨⟨g, (mn.pop g.cf).closeN ha, h.inv.sim, h.inv.mks⟩, h.nof, h.tbm⟩, rfl, (fun hh => by rw [hm] at hh; cases hh), fun _ => ⟨by omega, by omega, .inl ⟨rfl, hm, ?_⟩⟩⟩
        unfold mms
        rw [hrow]; simp only [List.length_cons]; omega
    | nil =>
      obtain ⟨ok, nw, cs⟩ := next_r h.inv.mn.rok g.cf
      rcases cs with ⟨s1, s2, s3⟩ | ⟨s1, s2, s3⟩
      · by_cases hsc : S.scan < S.y.here + S.y.used
        · obtain ⟨_, L, hL⟩ := g.sch hm
          have hp : ∃ p, m S.scan = some p := by
            cases L with
            | nil => have : S.scan = S.y.here + S.y.used := hL; omega
            | cons x r => obtain ⟨_, p, hp, _⟩ := hL; exact ⟨p, hp⟩
          obtain ⟨p, hp⟩ := hp
          have hf : ¬ inF S.y S.scan := fun e => g.tf ⟨sc.1, hsc⟩ e
          obtain ⟨m', p', j1, j2, j3, j4, j5, j6, j7, j8⟩ := through_spec (h.inv.open_ S.scan) hP hp hf hm (.inl (Int.le_refl _))
          have n2 := (g.rep.at_ S.scan p hp).n2
          have wr : wrap64 (S.scan + p.n) = S.scan + p.n := by
            have := g.rng hp; have := g.words
            unfold wrap64; omega
          have e : S.minStep = (((S.through S.scan).1, true), { (S.through S.scan).2 with scan := S.scan + p.n }) := by
            rw [step_nil hm hrow, if_neg (by rw [s1]; simp), s2, if_pos hsc]
            show ((_, _), ({ (S.through S.scan).2 with scan := wrap64 ((S.through S.scan).2.scan + (S.through S.scan).1) } : CS)) = _
            rw [j2.scan, j3, wr]
          rw [e]
          dsimp only
          obtain ⟨S1, hS1⟩ : ∃ S1, (S.through S.scan).2 = S1 := ⟨_, rfl⟩
          rw [hS1] at j1 j2 j7 j8 ⊢
          have g1 := j1.geo
          have mv1 := j2.mv.trans hm
          obtain ⟨h1, L1, hL1⟩ := g1.sch mv1
          have ys := j2.here
          -- the chain goes on behind the one that was looked through
          have ch : ∃ L2, Chain m' L2 (S.scan + p.n) (S1.y.here + S1.y.used) := by
            cases L1 with
            | nil =>
              have e1 : S1.scan = S1.y.here + S1.y.used := hL1
              rw [j2.scan] at e1
              have e2 := g1.cls j4
              rcases e2 with e2 | e2 | e2
              · unfold inT at e2; omega
              · exact (hf ((j2.yF _).1 e2)).elim
              · have := g.low (.inl ⟨sc.1, hsc⟩); rw [j2.c] at e2; omega
            | cons x r =>
              obtain ⟨e1, q, q1, q2⟩ := hL1
              rw [j2.scan] at q1 q2
              rw [j4] at q1; cases q1
              rw [j5] at q2
              exact ⟨r, q2⟩
          have g2 : Geo S1.c S1.ws S1.y S1.o S1.mv (S.scan + p.n) S1.cop m' R G.nodes.length :=
            ⟨g1.cf, g1.rep, g1.wl, g1.y0, g1.y1, g1.y2, g1.y3, g1.of_, g1.ow, g1.ol, g1.si, g1.dom, g1.all, g1.tch, fun _ => ⟨by rw [ys.1]; omega, ch⟩, g1.fch, g1.room, g1.nmv, g1.way, g1.uniq, g1.idb⟩
          have m2 : Mn S1.c S1.y S1.mv (S.scan + p.n) S1.cop S1.r S1.row m' 0 non := by
            have := j1.mn.scanned g1 (p := p') (by rw [j2.scan]; exact j4) (fun i hi => by rw [j2.yF]; exact j6 i hi)
            rw [j5, j2.scan] at this; exact this
          refine ⟨m', R, ⟨⟨g2, m2, j1.sim, by have := j1.mks; rw [← lookP_eq j2.look j2.c] at this; exact this⟩, fun x hx => by show ¬ inF S1.y x; rw [j2.yF]; exact h.nof x (by rw [← j2.tb]; exact hx), j2.tbm h.tbm⟩, j2.c, (fun hh => by rw [hm] at hh; cases hh), fun _ => ⟨by omega, by omega, .inl ⟨rfl, mv1, ?_⟩⟩⟩
          have ms := j2.ms
          unfold mms
          show (S1.row.length : Int) + S1.y.here + S1.y.used - (S.scan + p.n) + 2 * (S1.y.left - S1.cop) + S1.r.left < _
          rw [ys.1, ys.2.2, j8]
          omega
        · have e : S.minStep = ((2, false), S.finish) := by
            rw [step_nil hm hrow, if_neg (by rw [s1]; simp), s2, if_neg hsc]
          obtain ⟨f1, f2, f3⟩ := finish_spec h hm hrow s3 (by omega)
          rw [e]
          exact ⟨_, _, f1, f2, (fun hh => by rw [hm] at hh; cases hh), fun _ => ⟨by simp, by simp, .inr ⟨rfl, f3⟩⟩⟩
      · rcases s3 with ⟨s3, s4⟩ | ⟨s3, s4⟩
        · have i1 : Inv { S with r := S.r.next } m R G 0 (fun z => z = S.r.said.1.1) (lookP S) 0 0 non :=
            ⟨g, h.inv.mn.next hm ok (fun x hx => (nw x).2 hx) (fun a p hp h0 hx => (s4 a (hx.resolve_right id)).symm), h.inv.sim, h.inv.mks⟩
          obtain ⟨m', j1, j2, j3, j4, j5⟩ := noted_spec (x := S.r.said.1.1) (X' := non) i1 hP hm (fun z hz hx => hz hx)
          have e : S.minStep = (((CS.noted { S with r := S.r.next } S.r.said.1.1).1 + 1, true), (CS.noted { S with r := S.r.next } S.r.said.1.1).2) := by
            rw [step_nil hm hrow, if_pos s1, if_neg (by rw [s3]; simp)]
          rw [e]
          dsimp only
          refine ⟨m', R, ⟨by rw [lookP_eq j2.look j2.c]; exact j1, fun x hx => by rw [j2.yF]; rw [j2.tb] at hx; exact h.nof x hx, j2.tbm h.tbm⟩, j2.c, (fun hh => by rw [hm] at hh; cases hh), fun _ => ⟨by omega, by omega, .inl ⟨rfl, j2.mv.trans hm, ?_⟩⟩⟩
          have ms := j2.ms
          unfold mms
          rw [j2.here.1, j2.here.2.2, j2.scan, j5]
          simp only at ms ⊢
          omega
        · have i1 : Inv { S with r := S.r.next } m R G 0 (fun z => z ∈ Ma.stL S.o.f S.o.w S.r.said.1.1 S.r.said.1.2 S.o.l 0) (lookP S) 0 0 non :=
            ⟨g, h.inv.mn.next hm ok (fun x hx => (nw x).2 hx) (fun a p hp h0 hx => by
              have ha := (has_m h.inv h0).2 ⟨p, hp⟩
              have := g.hasm ha; have := (g.rng hp)
              rcases s4 a h0 (by omega) (hx.resolve_right id) with e | e
              · exact .inr ((Ma.starts_iff g.si.ok).2 ⟨e.1, e.2, ha⟩)
              · exact .inl e), h.inv.sim, h.inv.mks⟩
          obtain ⟨m', j1, j2, j3, j4, j5⟩ := partL_spec (R := R) (G := G) (Z := non) hP (Ma.stL S.o.f S.o.w S.r.said.1.1 S.r.said.1.2 S.o.l 0) 0 { S with r := S.r.next } m rfl i1 hm
          have sl := Ma.starts_len g.si.ok S.r.said.1.1 S.r.said.1.2
          have e : S.minStep = (((CS.partL (Ma.stL S.o.f S.o.w S.r.said.1.1 S.r.said.1.2 S.o.l 0) 0 { S with r := S.r.next }).1 + 1, true), (CS.partL (Ma.stL S.o.f S.o.w S.r.said.1.1 S.r.said.1.2 S.o.l 0) 0 { S with r := S.r.next }).2) := by
            rw [step_nil hm hrow, if_pos s1, if_pos s3]; rfl
          rw [e]
          dsimp only
          refine ⟨m', R, ⟨by rw [lookP_eq j2.look j2.c]; exact j1, fun x hx => by rw [j2.yF]; rw [j2.tb] at hx; exact h.nof x hx, j2.tbm h.tbm⟩, j2.c, (fun hh => by rw [hm] at hh; cases hh), fun _ => ⟨by omega, by omega, .inl ⟨rfl, j2.mv.trans hm, ?_⟩⟩⟩
          have ms := j2.ms
          unfold mms
          rw [j2.here.1, j2.here.2.2, j2.scan, j5]
          simp only at ms ⊢
          omega
  · have hm : S.mv = false := by simpa using hm
    have e : S.minStep = ((0, false), S) := by unfold CS.minStep; rw [if_pos hm]
    rw [e]
    exact ⟨m, R, h, rfl, fun _ => rfl, fun hh => by rw [hm] at hh; cases hh⟩
theorem Good.runG {step : CS → (Int × Bool) × CS} (hs : ∀ {S m R}, Good S m R G → ∃ m' R', Good (step S).2 m' R' G ∧ (step S).2.c = S.c) : ∀ (k : Nat) (work done : Int) {S m R}, Good S m R G → ∃ m' R', Good (CS.runG step work k done S).2 m' R' G ∧ (CS.runG step work k done S).2.c = S.c := by
  intro k
  induction k with
  | zero => intro work done S m R h; exact ⟨m, R, h, rfl⟩
  | succ k ih =>
    intro work done S m R h
    obtain ⟨m1, R1, h1, c1⟩ := hs h
    unfold CS.runG
    split
    · split
      · obtain ⟨m2, R2, h2, c2⟩ := ih work (done + (step S).1.1) h1
        exact ⟨m2, R2, h2, c2.trans c1⟩
      · exact ⟨m1, R1, h1, c1⟩
    · exact ⟨m, R, h, rfl⟩
theorem Good.minRun (h : Good S m R G) (work : Int) : ∃ m' R', Good (S.minRun work).2 m' R' G ∧ (S.minRun work).2.c = S.c :=
  Good.runG (fun h => by obtain ⟨m', R', h1, h2, _⟩ := h.minStep; exact ⟨m', R', h1, h2⟩) _ _ _ h
end
end Go.Proofs.YtihmkkjmnbehbaaGreat.Wh
