/- Texts of the whole heap, joined: WqS. No condition beside those that each lemma names. -/
import Derived.Test.YtihmkkjmnbehbaaGreatMg33
/- A program's calls on objects do what a graph does. No condition. -/
set_option linter.unusedVariables false
set_option linter.unusedSimpArgs false
namespace Go.Proofs.YtihmkkjmnbehbaaGreat.Wh
open Go.RowKit Go.Proofs.YtihmkkjmnbehbaaGreat.W
section
variable {S : CS} {m : Mp} {R : Nat → Prop} {G : Gr.GS}
theorem Good.tbl (h : Good S m R G) : (S.tb.length : Int) = G.hs.length ∧ G.hs.length ≤ 64 := ⟨by have := h.inv.sim.hl; omega, h.inv.sim.gok.hlen⟩
/-- A handle's. -/
theorem Good.get (h : Good S m R G) (x : Int) : (Gr.has G x = false ∧ S.get x = (0, 3)) ∨ (Gr.has G x = true ∧ ∃ v, S.get x = (v, 0) ∧ 0 ≤ x ∧ x.toNat < S.tb.length ∧ S.tb[x.toNat]?.getD 0 = v ∧ Den m R v (Gr.held G x) ∧ v ∈ S.tb) := by
  have hl := h.inv.sim.hl
  unfold CS.get Tab.gets
  by_cases hx : 0 ≤ x ∧ x < (S.tb.length : Int)
  · right
    refine ⟨(Gr.has_iff G x).2 (by omega), _, by rw [if_pos hx], hx.1, by omega, rfl, h.inv.sim.tbD x.toNat (by omega), ?_⟩
    rw [List.getElem?_eq_getElem (by omega)]; exact List.getElem_mem (by omega)
  · left
    refine ⟨?_, by rw [if_neg hx]⟩
    cases hh : Gr.has G x with
    | false => rfl
    | true => have := (Gr.has_iff G x).1 hh; omega
theorem Good.held_le (h : Good S m R G) (x : Int) : Gr.held G x ≤ G.nodes.length := Gr.held_le h.inv.sim.gok x
/-- What a handle holds. -/
theorem Good.obj (h : Good S m R G) (x : Int) : (Gr.has G x = false ∧ Gr.wrong G x = 3 ∧ S.obj x = (0, Hea.Hd.zero, 3)) ∨ (Gr.wrong G x = 4 ∧ S.obj x = (0, Hea.Hd.zero, 4)) ∨
    (Gr.wrong G x = 0 ∧ ∃ v p, S.obj x = (v, p.hd, 0) ∧ m v = some p ∧ p.id = Gr.held G x ∧ R p.id ∧ p.way = v ∧ ¬ inF S.y v ∧ NodeOk m R G p) := by
  have g := h.inv.geo
  rcases h.get x with ⟨h1, e⟩ | ⟨h1, v, e, h2, h3, h4, h5, h6⟩
  · refine .inl ⟨h1, by unfold Gr.wrong; rw [h1]; rfl, by unfold CS.obj; rw [e]; rfl⟩
  · rcases h5 with ⟨e1, e2⟩ | ⟨e1, e2, p, hp, e3⟩
    · refine .inr (.inl ⟨by unfold Gr.wrong; rw [h1, if_pos rfl, if_pos e2], by unfold CS.obj; rw [e, e1]; rfl⟩)
    · have v0 : v ≠ 0 := by rintro rfl; rw [g.nz] at hp; cases hp
      have nf := h.nof v h6
      have hw := g.here hp nf
      refine .inr (.inr ⟨by unfold Gr.wrong; rw [h1, if_pos rfl, if_neg e1], v, p, ?_, hp, e3, e3 ▸ e2, hw, nf, h.inv.sim.node v p hp (e3 ▸ e2) hw⟩)
      unfold CS.obj
      rw [e]
      simp only []
      rw [if_neg (by simp), if_neg v0, h.inv.hd hp]
/-- A handle holds another one. -/
theorem Good.set (h : Inv S m R G 0 non (lookP S) 0 0 non) (hn : NoF S.y S.tb) (ht : TbM m S.par S.ph S.tb) {x v : Int} {q : Nat} (hx : 0 ≤ x ∧ x.toNat < S.tb.length) (hd : Den m R v q) (hq : q ≤ G.nodes.length) (hf : ¬ inF S.y v) (hm : S.ph = 1 → ∀ p, m v = some p → Mkd m S.par p.id) :
    Good (S.set x v) m R { G with hs := G.hs.set x.toNat q } ∧ (S.set x v).c = S.c ∧ Tab.setE S.tb x = 0 := by
  have e : S.set x v = { S with tb := S.tb.set x.toNat v } := by unfold CS.set Tab.sets; rw [if_pos (by omega)]
  rw [e]
  refine ⟨⟨⟨h.geo, h.mn, h.sim.tab x.toNat hd hq, h.mks⟩, fun z hz => ?_, fun h1 z hz p hp => ?_⟩, rfl, by unfold Tab.setE; rw [if_pos (by omega)]⟩
  · rcases List.mem_or_eq_of_mem_set hz with hz | rfl
    · exact hn z hz
    · exact hf
  · rcases List.mem_or_eq_of_mem_set hz with hz | rfl
    · exact ht h1 z hz p hp
    · exact hm h1 p hp
/-- What is done to a graph: an answer's error, and the graph. -/
def Goes (r : Int × CS) (g : Int × Gr.GS) (c : CF) : Prop := r.1 = g.1 ∧ (∃ m R, Good r.2 m R g.2) ∧ r.2.c = c
theorem Goes.same (h : Good S m R G) (e : Int) : Goes (e, S) (e, G) S.c := ⟨rfl, ⟨m, R, h⟩, rfl⟩
theorem setE_not {x v : Int} (hl : S.tb.length = G.hs.length) (h : Gr.has G x = false) : Tab.setE S.tb x = 3 ∧ S.set x v = S := by
  have : ¬ (0 ≤ x ∧ x < (S.tb.length : Int)) := fun hh => by
    have := (Gr.has_iff G x).2 (by omega)
    rw [h] at this; cases this
  exact ⟨by unfold Tab.setE; rw [if_neg this], by unfold CS.set Tab.sets; rw [if_neg this]⟩
theorem Good.clearH (h : Good S m R G) (x : Int) : Goes (S.clearH x) (Gr.gclear G x) S.c := by
  unfold CS.clearH Gr.gclear
  rcases h.get x with ⟨h1, e⟩ | ⟨h1, v, e, h2, h3, h4, h5, h6⟩
  · obtain ⟨e1, e2⟩ := setE_not (v := 0) h.inv.sim.hl h1
    rw [e1, e2, h1]
    exact Goes.same h 3
  · obtain ⟨a, b, c⟩ := Good.set h.inv h.nof h.tbm ⟨h2, h3⟩ (v := 0) (q := 0) (.inl ⟨rfl, rfl⟩) (Nat.zero_le _) (fun hf => by have := h.inv.geo.low (.inr hf); omega) (fun _ p hp => by rw [h.inv.geo.nz] at hp; cases hp)
    rw [c, h1]
    exact ⟨rfl, ⟨m, R, a⟩, b⟩
theorem Good.copyH (h : Good S m R G) (t f : Int) : Goes (S.copyH t f) (Gr.gcopy G t f) S.c := by
  unfold CS.copyH Gr.gcopy
  rcases h.get f with ⟨h1, e⟩ | ⟨h1, v, e, h2, h3, h4, h5, h6⟩
  · rw [e, h1]
    exact Goes.same h 3
  · rw [e, h1]
    simp only [Bool.true_and]
    rw [if_neg (by simp)]
    rcases h.get t with ⟨k1, e'⟩ | ⟨k1, v', e', k2, k3, k4, k5, k6⟩
    · obtain ⟨e1, e2⟩ := setE_not (v := v) h.inv.sim.hl k1
      rw [e1, e2, k1]
      exact Goes.same h 3
    · obtain ⟨a, b, c⟩ := Good.set h.inv h.nof h.tbm ⟨k2, k3⟩ h5 (h.held_le f) (h.nof v h6) (fun h1 p hp => h.tbm h1 v h6 p hp)
      rw [c, k1]
      exact ⟨rfl, ⟨m, R, a⟩, b⟩
theorem Good.getF (h : Good S m R G) (t x n : Int) : Goes (S.getF t x n) (Gr.gget G t x n) S.c := by
  unfold CS.getF Gr.gget
  rcases h.obj x with ⟨_, w, e⟩ | ⟨w, e⟩ | ⟨w, v, p, e, hp, hi, hR, hw, hf, nd⟩
  · rw [e, w]; exact Goes.same h 3
  · rw [e, w]; exact Goes.same h 4
  · rw [e, w, if_pos rfl]
    simp only []
    rw [if_neg (by simp)]
    rcases h.get t with ⟨k1, e'⟩ | ⟨k1, v', e', k2, k3, k4, k5, k6⟩
    · rw [e', k1, if_pos (by simp)]; exact Goes.same h 3
    · rw [e', k1, if_neg (by simp), if_pos rfl]
      have pt := nd.ptrs
      rw [hi] at pt
      by_cases hn : n < 0 ∨ p.hd.ptrs ≤ n
      · rw [if_pos hn, if_neg (by rw [Gr.inL_iff]; omega)]
        exact Goes.same h 5
      · rw [if_neg hn, if_pos ((Gr.inL_iff _ _).2 (by omega))]
        have g := h.inv.geo
        have en : n = ((n.toNat : Nat) : Int) := by omega
        have rfn := h.inv.mn.refs v p hp hw n.toNat (by omega)
        have gd := (g.rep.at_ v p hp).good
        unfold Hea.Hd.good at gd
        have er := h.inv.ref hp (by omega : 0 ≤ n) (by omega) rfn
        have dn := nd.refs n.toNat (by rw [hi]; omega)
        rw [er]
        unfold rf at dn
        rw [hi] at dn
        obtain ⟨q, hq⟩ : ∃ q, (Gr.nod G (Gr.held G x)).refs[n.toNat]?.getD 0 = q := ⟨_, rfl⟩
        rw [hq] at dn ⊢
        obtain ⟨m1, i1, M⟩ := move_spec h.inv (p.f n.toNat) (fun hf => by
          rcases dn with ⟨e, _⟩ | ⟨_, _, q, hq, _⟩
          · have := g.low (.inr hf); omega
          · exact ⟨q, hq⟩) (lookP_mat g.cf)
        obtain ⟨w1, hw1⟩ : ∃ w1, (S.move (p.f n.toNat)).1 = w1 := ⟨_, rfl⟩
        obtain ⟨S1, hS1⟩ : ∃ S1, (S.move (p.f n.toNat)).2 = S1 := ⟨_, rfl⟩
        rw [hw1, hS1] at M
        rw [hS1] at i1
        rw [hw1, hS1]
        have d1 := M.den q dn
        obtain ⟨m2, i2, s2, k2'⟩ := mark_step i1 w1 (by
          rcases d1 with ⟨e, _⟩ | ⟨_, h2, p', hp', e⟩
          · exact .inl e
          · exact .inr ⟨p', hp', e ▸ h2⟩)
        obtain ⟨ws, gl, gz, e2⟩ := s2.eq
        have F := M.frame
        have ql : q ≤ G.nodes.length := by
          have gn := Gr.nod_at h.inv.sim.gok (i := Gr.held G x) (by have := (g.idb v p hp).1; omega) (h.held_le x)
          rw [← hq]
          cases hr : (Gr.nod G (Gr.held G x)).refs[n.toNat]? with
          | none => simp
          | some r => exact gn.2.1 r (List.mem_of_getElem? hr)
        have lk : lookP (S1.mark w1) = lookP S := lookP_eq (by rw [e2]; exact M.look) (by rw [e2]; exact M.c)
        have d2 : Den m2 R w1 q := d1.mono fun p' hp' => by
          obtain ⟨q', t1, t2⟩ := s2.same.fwd w1 p' hp'; exact ⟨q', t1, t2.2.2.2.2.2.2⟩
        have tb2 : (S1.mark w1).tb = S.tb := by rw [e2]; exact M.tb
        obtain ⟨a, b, c⟩ := Good.set (S := S1.mark w1) (m := m2) (x := t) (by rw [lk]; exact i2) (by
          rw [tb2]; intro z hz
          have : (S1.mark w1).y = S1.y := by rw [e2]
          rw [this, M.yF]; exact h.nof z hz) (by
          have := s2.tbm (F.tbm h.tbm)
          rw [e2]; exact this) (by rw [tb2]; exact ⟨k2, k3⟩) d2 ql (by
          have : (S1.mark w1).y = S1.y := by rw [e2]
          rw [this]; exact M.nF.2) (fun h1 p' hp' => by
          have e3 : (S1.mark w1).par = S1.par := by rw [e2]
          have e4 : (S1.mark w1).ph = S1.ph := by rw [e2]
          rw [e4] at h1
          rw [e3]
          obtain ⟨q0, b1, _, _, _, _, _, _, b2⟩ := s2.same.back w1 p' hp'
          rw [b2]; exact k2' h1 q0 b1)
        rw [c]
        exact ⟨rfl, ⟨m2, R, a⟩, b.trans (by rw [e2]; exact M.c)⟩
theorem Good.writeF (h : Good S m R G) (x n v : Int) (hv : 0 ≤ v ∧ v ≤ 18446744073709551615) : Goes (S.writeF x n v) (Gr.gwrite G x n v) S.c := by
  unfold CS.writeF Gr.gwrite
  rcases h.obj x with ⟨_, w, e⟩ | ⟨w, e⟩ | ⟨w, a, p, e, hp, hi, hR, hw, hf, nd⟩
  · rw [e, w]; exact Goes.same h 3
  · rw [e, w]; exact Goes.same h 4
  · rw [e, w, if_pos rfl]
    simp only []
    rw [if_neg (by simp), ← hi]
    have pt := nd.ptrs
    have sz := nd.size
    by_cases hn : n < 0 ∨ p.hd.size - p.hd.ptrs ≤ n
    · rw [if_pos hn, if_neg (by rw [Gr.inL_iff]; omega)]
      exact Goes.same h 5
    · rw [if_neg hn, if_pos ((Gr.inL_iff _ _).2 (by omega))]
      have g := h.inv.geo
      have H := g.rep.at_ a p hp
      have gd := H.good
      unfold Hea.Hd.good at gd
      have fit := H.fit; have a0 := H.a0
      unfold OR.n at fit
      have pl := H.place g.rep.len (n := p.hd.ptrs + n) (by omega) (by omega)
      obtain ⟨r1, r2⟩ := g.rep.set hp (n := p.hd.ptrs + n) (by omega) (by omega) v
      have ei : (p.hd.ptrs + n).toNat = (Gr.nod G p.id).refs.length + n.toNat := by omega
      rw [ei] at r1
      have fs := f_set p ((Gr.nod G p.id).refs.length + n.toNat) v
      have ff : ∀ i : Nat, (i : Int) < p.hd.ptrs → ({ p with fl := p.fl.set ((Gr.nod G p.id).refs.length + n.toNat) v } : OR).f i = p.f i := fun i hi' => by
        unfold OR.f
        rw [fs, if_neg (by omega)]; rfl
      have kk : KeepK m (upM m a { p with fl := p.fl.set ((Gr.nod G p.id).refs.length + n.toNat) v }) R S.par S.ph := KeepK.up hp rfl rfl rfl rfl rfl fun _ i hi => .inl (ff i hi)
      have s' := h.inv.sim.write g hp hR hw n.toNat v (by omega) hv
      have g' := g.like (Like.up (q := { p with fl := p.fl.set ((Gr.nod G (p.id)).refs.length + n.toNat) v }) hp rfl rfl rfl rfl rfl) r1 r2
      have k0 : Mn S.c S.y S.mv S.scan S.cop S.r S.row (upM m a { p with fl := p.fl.set ((Gr.nod G (p.id)).refs.length + n.toNat) v }) 0 non := h.inv.mn.keep (KeepM.up hp rfl rfl rfl ff)
      refine ⟨?_, ⟨_, R, ⟨⟨?_, k0, s', h.inv.mks.keep kk⟩, h.nof, h.tbm.keep kk⟩⟩, rfl⟩
      · show Ob.erW S.ws _ = 0
        rw [pl]
        unfold Ob.erW; rw [if_pos (inn_iff.2 ⟨by omega, by omega⟩)]
      · have : ({ G with nodes := Gr.setN G (p.id) ⟨(Gr.nod G (p.id)).refs, (Gr.nod G (p.id)).scal.set n.toNat v⟩ } : Gr.GS).nodes.length = G.nodes.length := by simp [Gr.setN]
        rw [this]; exact g'
theorem Mn.close2 {c : CF} {y : Bp.Sp} {mv : Bool} {scan cop : Int} {r : Re.RS} {row : List Int} {X : Int → Prop} {a : Int} {p : OR} (h : Mn c y mv scan cop r row m a X) (ha : m a = some p)
    (hF : c.mat ≤ a → ∀ i : Nat, (i : Int) < p.hd.ptrs → inF y (p.f i) → a ∈ row ∨ (p.hd.noted = true ∧ (inThen r a ∨ X a))) (hT : c.mat ≤ a → ∀ i : Nat, (i : Int) < p.hd.ptrs → inT y (p.f i) → a ∈ row ∨ p.hd.noted = true) : Mn c y mv scan cop r row m 0 X := by
  refine ⟨h.rok, h.refs, h.scF, fun b q hq h0 _ i hi hf => ?_, fun b q hq h0 _ i hi hf => ?_, h.ntd, h.rowm, h.rowl, h.idle⟩ <;> by_cases e : b = a
  · subst e; rw [ha] at hq; cases hq; exact hF h0 i hi hf
  · exact h.oldF b q hq h0 e i hi hf
  · subst e; rw [ha] at hq; cases hq
    exact (hT h0 i hi hf).imp_right fun hn => ⟨hn, (h.ntd b p ha hn).2⟩
  · exact h.oldT b q hq h0 e i hi hf
theorem Good.setF (h : Good S m R G) (x n f : Int) : Goes (S.setF x n f) (Gr.gset G x n f) S.c := by
  unfold CS.setF Gr.gset
  rcases h.obj x with ⟨_, w, e⟩ | ⟨w, e⟩ | ⟨w, a, p, e, hp, hi, hR, hw, hf, nd⟩
  · rw [e, w]; exact Goes.same h 3
  · rw [e, w]; exact Goes.same h 4
  · rw [e, w, if_pos rfl]
    simp only []
    rw [if_neg (by simp)]
    rcases h.get f with ⟨k1, e'⟩ | ⟨k1, v, e', k2, k3, k4, dv, k6⟩
    · rw [e', k1, if_pos (by simp)]; exact Goes.same h 3
    · rw [e', k1, if_neg (by simp), if_pos rfl]
      rw [← hi]
      have pt := nd.ptrs
      have sz := nd.size
      by_cases hn : n < 0 ∨ p.hd.ptrs ≤ n
      · rw [if_pos hn, if_neg (by rw [Gr.inL_iff]; omega)]
        exact Goes.same h 5
      · rw [if_neg hn, if_pos ((Gr.inL_iff _ _).2 (by omega))]
        have g := h.inv.geo
        have H := g.rep.at_ a p hp
        have gd := H.good
        unfold Hea.Hd.good at gd
        have vF := h.nof v k6
        have rv : Rf S.c S.y m v := by
          rcases dv with ⟨e, _⟩ | ⟨_, _, q, hq, _⟩
          · exact .inl e
          · rcases g.cls hq with e | e | ⟨e, _⟩
            · exact .inr (.inl ⟨q, hq, .inl e⟩)
            · exact (vF e).elim
            · exact .inr (.inr ⟨e, by have := g.rng hq; have := g.words; omega⟩)
        simp only []
        rw [u64_small (rv.small g)]
        obtain ⟨r1, r2⟩ := g.rep.set hp (n := n) (by omega) (by omega) v
        have fs := f_set p n.toNat v
        have kk : KeepK m (upM m a { p with fl := p.fl.set n.toNat v }) R S.par S.ph := KeepK.up hp rfl rfl rfl rfl rfl fun _ i hi' => by
          by_cases ei : i = n.toNat ∧ n.toNat < p.fl.length
          · right
            intro r hr
            have e1 : ({ p with fl := p.fl.set n.toNat v } : OR).f i = v := by unfold OR.f; rw [fs, if_pos ei]
            rw [e1] at hr
            exact .inr fun h1 => h.tbm h1 v k6 r hr
          · left; unfold OR.f; rw [fs, if_neg ei]; rfl
        have s' := h.inv.sim.set g hp hR hw n.toNat v (Gr.held G f) (by omega) dv (h.held_le f)
        have g' := g.like (Like.up (q := { p with fl := p.fl.set n.toNat v }) hp rfl rfl rfl rfl rfl) r1 r2
        have k0 : Mn S.c S.y S.mv S.scan S.cop S.r S.row (upM m a { p with fl := p.fl.set n.toNat v }) a non := (h.inv.mn.open_ g.cf a).fld hp n.toNat v rv (fun _ => rfl) (fun _ _ _ => vF)
        obtain ⟨S1, hS1⟩ : ∃ S1 : CS, { S with ws := Ob.stW S.ws (Ob.placeOf a n) v } = S1 := ⟨_, rfl⟩
        obtain ⟨G1, hG1⟩ : ∃ G1 : Gr.GS, { G with nodes := Gr.setN G p.id ⟨(Gr.nod G p.id).refs.set n.toNat (Gr.held G f), (Gr.nod G p.id).scal⟩ } = G1 := ⟨_, rfl⟩
        have gl : G1.nodes.length = G.nodes.length := by rw [← hG1]; simp [Gr.setN]
        have i1 : Inv S1 (upM m a { p with fl := p.fl.set n.toNat v }) R G1 a non (lookP S) 0 0 non := by
          rw [← hS1]
          exact ⟨by rw [gl]; exact g', k0, by rw [← hG1]; exact s', h.inv.mks.keep kk⟩
        rw [hS1, hG1]
        have ep : ∀ i : Nat, (i : Int) < p.hd.ptrs → i ≠ n.toNat → ({ p with fl := p.fl.set n.toNat v } : OR).f i = p.f i := fun i _ hi' => by unfold OR.f; rw [fs, if_neg (fun hh => hi' hh.1)]; rfl
        have en : ({ p with fl := p.fl.set n.toNat v } : OR).f n.toNat = v := by unfold OR.f; rw [fs, if_pos ⟨rfl, by have := H.len; omega⟩]
        have y1 : S1.y = S.y := by rw [← hS1]
        have c1 : S1.c = S.c := by rw [← hS1]
        have l1 : S1.look = S.look := by rw [← hS1]
        have row1 : S1.row = S.row := by rw [← hS1]
        have r1' : S1.r = S.r := by rw [← hS1]
        have nof1 : NoF S1.y S1.tb := by rw [← hS1]; exact h.nof
        have tbm1 : TbM (upM m a { p with fl := p.fl.set n.toNat v }) S1.par S1.ph S1.tb := by rw [← hS1]; exact h.tbm.keep kk
        have a0 : S.c.mat ≤ a → a ≠ 0 := fun h0 => by have := g.words; omega
        by_cases hT : inT S.y v
        · obtain ⟨m2, ws2, rr, n1, n2, n3, n4, n5, n6, n7⟩ := note_spec i1 (upM_self m a _)
          rw [if_pos (isIn_iff.2 hT), n1]
          obtain ⟨p2, q1, q2, q3, q4, q5, q6, q7, q8⟩ := n3.fwd a _ (upM_self m a _)
          have ff : ∀ i, p2.f i = ({ p with fl := p.fl.set n.toNat v } : OR).f i := fun i => by unfold OR.f; rw [q7]
          have old2 : S.c.mat ≤ a → p2.hd.noted = true := fun h0 => by
            obtain ⟨q, t1, t2, _⟩ := n7 ((g.old hp).2 h0)
            rw [q1] at t1; cases t1; exact t2
          refine ⟨rfl, ⟨m2, R, ⟨⟨n2.geo, ?_, n2.sim, by
            have e := lookP_eq (S := S) (S' := { S1 with ws := ws2, r := rr }) l1 c1
            show Mk S1.c S1.o m2 R S1.par S1.ph S1.look S1.gm S1.gl S1.gz (lookP { S1 with ws := ws2, r := rr }) 0 0 non
            rw [e]; exact n2.mks⟩, nof1, n5 tbm1⟩⟩, c1⟩
          refine n2.mn.close2 q1 (fun h0 i hi' hh => ?_) (fun h0 i hi' hh => .inr (old2 (by rw [← c1]; exact h0)))
          have h0' : S.c.mat ≤ a := by rw [← c1]; exact h0
          rw [ff] at hh
          by_cases ei : i = n.toNat
          · rw [ei, en] at hh
            have hh : inF S1.y v := hh
            rw [y1] at hh; exact (vF hh).elim
          · have hi2 : (i : Int) < p.hd.ptrs := by have : p2.hd.ptrs = p.hd.ptrs := q3; omega
            rw [ep i hi2 ei] at hh
            have hh : inF S1.y (p.f i) := hh
            rw [y1] at hh
            rcases h.inv.mn.oldF a p hp h0' (a0 h0') i hi2 hh with e | ⟨_, e | e⟩
            · left; show a ∈ S1.row; rw [row1]; exact e
            · exact .inr ⟨old2 h0', .inl ((n4 a).2 (by rw [r1']; exact e))⟩
            · exact e.elim
        · rw [if_neg (by rw [isIn_iff]; exact hT)]
          refine ⟨rfl, ⟨_, R, ⟨⟨i1.geo, ?_, i1.sim, by
            show Mk S1.c S1.o _ R S1.par S1.ph S1.look S1.gm S1.gl S1.gz (lookP S1) 0 0 non
            rw [lookP_eq (S := S) l1 c1]; exact i1.mks⟩, nof1, tbm1⟩⟩, c1⟩
          refine i1.mn.close2 (upM_self m a _) (fun h0 i hi' hh => ?_) (fun h0 i hi' hh => ?_)
          all_goals
            have h0' : S.c.mat ≤ a := by rw [← c1]; exact h0
            rw [y1] at hh
            by_cases ei : i = n.toNat
          · rw [ei, en] at hh; exact (vF hh).elim
          · rw [ep i hi' ei] at hh
            rw [row1, r1']
            exact h.inv.mn.oldF a p hp h0' (a0 h0') i hi' hh
          · rw [ei, en] at hh; exact (hT hh).elim
          · rw [ep i hi' ei] at hh
            rw [row1]
            exact (h.inv.mn.oldT a p hp h0' (a0 h0') i hi' hh).imp_right fun e => e.1
end
end Go.Proofs.YtihmkkjmnbehbaaGreat.Wh
