/- Texts of the whole heap, joined: WqT WqU WhT. No condition beside those that each lemma names. -/
import Derived.Test.YtihmkkjmnbehbaaGreatMg34
import Derived.Test.YtihmkkjmnbehbaaGreatMg31
/- A heap does what a graph does. No condition. -/
set_option linter.unusedVariables false
set_option linter.unusedSimpArgs false
namespace Go.Proofs.YtihmkkjmnbehbaaGreat.Wh
open Go.RowKit Go.Proofs.YtihmkkjmnbehbaaGreat.W
section
variable {S : CS} {m : Mp} {R : Nat → Prop} {G : Gr.GS}
theorem set_self {α : Type} (L : List α) (i : Nat) (d : α) : L.set i (L[i]?.getD d) = L := by
  apply List.ext_getElem?
  intro j
  rw [List.getElem?_set]
  by_cases e : i = j
  · subst e
    rw [if_pos rfl]
    by_cases hl : i < L.length
    · rw [if_pos hl, List.getElem?_eq_getElem hl]; rfl
    · rw [if_neg hl, List.getElem?_eq_none (by omega)]
  · rw [if_neg e]
theorem shape_iff (h : Good S m R G) (b c : Int) : S.shape b c = Gr.fits G b c := by
  have := h.inv.sim.lar
  unfold CS.shape Gr.fits
  rw [Bool.eq_iff_iff]
  simp only [Bool.and_eq_true, decide_eq_true_eq]
  omega
/-- What is made: there is room, and a node is made; or none, and nothing changes. -/
theorem Good.make (h : Good S m R G) (x b c : Int) : ((S.make x b c) = (7, S) ∧ Gr.has G x = true ∧ Gr.fits G b c = true) ∨ Goes (S.make x b c) (Gr.gmake G x b c) S.c := by
  unfold CS.make Gr.gmake
  rcases h.get x with ⟨k1, e⟩ | ⟨k1, v', e, k2, k3, k4, k5, k6⟩
  · right; rw [e, k1]; exact Goes.same h 3
  · rw [e, k1]
    dsimp only
    rw [if_neg (by simp), if_pos rfl, shape_iff h]
    cases hf : Gr.fits G b c with
    | false => right; exact Goes.same h 6
    | true =>
      rw [if_neg (by simp), if_pos rfl]
      have g := h.inv.geo
      have hf' := hf
      unfold Gr.fits at hf'
      simp only [Bool.and_eq_true, decide_eq_true_eq] at hf'
      have lar := h.inv.sim.lar
      have l1 := g.cf.l1; have n1 := g.cf.n1; have n0 := g.cf.n0
      have p01 := h.inv.mks.p01
      obtain ⟨k, hk⟩ : ∃ k : Hd, k = ⟨b + c, b, 0, S.par, false, false, false⟩ := ⟨_, rfl⟩
      have kg : k.good := by rw [hk]; unfold Hea.Hd.good; simp only []; omega
      have kw : Ob.wordsOf k = k.size + 2 := Ob.wordsOf_good kg
      have ks : k.size = b + c := by rw [hk]
      rw [← hk, kw]
      by_cases hr : S.room (k.size + 2) = true
      · right
        rw [if_neg (by rw [hr]; simp)]
        have y0 := g.y0; have y1 := g.y1; have y2 := g.y2; have y3 := g.y3
        have hr2 : (if S.mv then wrap64 (S.y.left - S.cop) else 0) ≤ S.y.room - (k.size + 2) := by unfold CS.room at hr; simpa using hr
        unfold Bp.Sp.room at hr2
        have cop0 : S.mv = true → wrap64 (S.y.left - S.cop) = S.y.left - S.cop ∧ 0 ≤ S.y.left - S.cop := fun hm => by
          obtain ⟨L, hL, hu⟩ := g.fch
          have u := hu hm
          have s : 0 ≤ unm m L := sum_nn (f := uw m) (L := L) (fun z => uw_nn g.rep z)
          have := (g.room hm).2
          exact ⟨by unfold wrap64; omega, by omega⟩
        have ru : S.y.used + (k.size + 2) ≤ S.c.n := by
          split at hr2
          · rename_i hm; have := cop0 hm; omega
          · omega
        have rm : S.mv = true → S.y.left - S.cop ≤ S.c.n - (S.y.used + (k.size + 2)) := fun hm => by
          rw [if_pos hm, (cop0 hm).1] at hr2; omega
        have hfit : S.y.fits (k.size + 2) = true := by unfold Bp.Sp.fits Bp.Sp.room; rw [g.y3]; simp; omega
        obtain ⟨e1, e2, e3, e4, e5⟩ := take_y hfit
        have ey : yAt S.y (k.size + 2) = S.y.here + S.y.used := by unfold yAt; rw [if_pos hfit]
        rw [ey]
        obtain ⟨a, ha⟩ : ∃ a, S.y.here + S.y.used = a := ⟨_, rfl⟩
        have nb : m a = none := by
          cases hp : m a with
          | none => rfl
          | some p =>
            exfalso
            have := (g.rep.at_ a p hp).n2
            rcases g.dom a p hp with ⟨h1, h2, _⟩ | ⟨h1, h2, _⟩ | ⟨h1, _⟩
            · unfold inT at h1; omega
            · unfold inF at h1; omega
            · unfold CF.mat at h1; omega
        have g' := g.make kg (by rw [hk]) ru rm
        rw [ha] at g' ⊢
        obtain ⟨Q, hQ⟩ : ∃ Q : OR, Q = ⟨k, a, List.replicate k.size.toNat 0, G.nodes.length + 1⟩ := ⟨_, rfl⟩
        rw [← hQ] at g'
        have qf : ∀ i, Q.f i = 0 := fun i => by
          rw [hQ]; unfold OR.f; simp only [List.getElem?_replicate]; split <;> rfl
        have a0 : a ≠ 0 := by omega
        have am : a < S.c.mat := by unfold CF.mat; omega
        have mn' : Mn S.c (S.y.take (k.size + 2)) S.mv S.scan S.cop S.r S.row (upM m a Q) 0 non := h.inv.mn.make g ha.symm nb (by rw [hQ, hk]) qf e1 e2 e3 (by omega)
        have s' := h.inv.sim.make (x := b.toNat) (s := c.toNat) g nb (by rw [hQ]) (by rw [hQ, hk]; simp only []; omega) (by rw [hQ]; simp only [ks]; omega) qf (by omega)
        have k' := h.inv.mks.make g h.inv.sim nb a0 am (by rw [hQ]) (by rw [hQ, hk]) (by rw [hQ, hk]) qf
        obtain ⟨G1, hG1⟩ : ∃ G1 : Gr.GS, { G with nodes := G.nodes ++ [⟨List.replicate b.toNat 0, List.replicate c.toNat 0⟩] } = G1 := ⟨_, rfl⟩
        have gl : G1.nodes.length = G.nodes.length + 1 := by rw [← hG1]; simp
        obtain ⟨S1, hS1⟩ : ∃ S1 : CS, { S with y := S.y.take (k.size + 2), ws := Ob.mkW S.ws a k, d := { S.d with al := wrap64 (S.d.al + 1), wo := wrap64 (S.d.wo + (k.size + 2)) } } = S1 := ⟨_, rfl⟩
        rw [hG1] at s'
        have lk : lookP S1 = lookP S := by rw [← hS1]; exact lookP_eq rfl rfl
        have i1 : Inv S1 (upM m a Q) (fun i => R i ∨ i = G.nodes.length + 1) G1 0 non (lookP S1) 0 0 non := by
          rw [lk, ← hS1]
          exact ⟨by rw [gl]; exact g', mn', s', k'⟩
        have fw : ∀ {v q}, m v = some q → upM m a Q v = some q := fun hq => by
          rw [upM_ne]; exact hq
          rintro rfl; rw [nb] at hq; cases hq
        obtain ⟨s1, s2⟩ := h.inv.sim.ne nb a0
        have n1 : NoF S1.y S1.tb := by
          rw [← hS1]
          intro z hz
          have := h.nof z hz
          unfold inF at this ⊢
          simp only [e2, e3]; exact this
        have t1 : TbM (upM m a Q) S1.par S1.ph S1.tb := by
          rw [← hS1]
          intro h1 z hz q hq
          rw [upM_ne _ _ (s2 z hz)] at hq
          obtain ⟨d, r, r1, r2⟩ := h.tbm h1 z hz q hq
          exact ⟨d, r, fw r1, r2⟩
        obtain ⟨A, B, C⟩ := Good.set (S := S1) (x := x) (v := a) (q := G.nodes.length + 1) i1 n1 t1 (by rw [← hS1]; exact ⟨k2, k3⟩) (.inr ⟨by omega, .inr rfl, Q, upM_self _ _ _, by rw [hQ]⟩) (by rw [gl]; omega) (by
          rw [← hS1]; unfold inF; simp only [e2, e3]; omega) (fun h1 q hq => by
          rw [upM_self] at hq; cases hq
          exact ⟨a, Q, upM_self _ _ _, rfl, by rw [hQ], by rw [← hS1, hQ, hk]⟩)
        have C' : Tab.setE S.tb x = 0 := by have := C; rw [← hS1] at this; exact this
        rw [hS1, C']
        rw [← hG1] at A
        exact ⟨rfl, ⟨_, _, A⟩, B.trans (by rw [← hS1])⟩
      · left
        rw [if_pos (by simpa using hr)]
        exact ⟨rfl, rfl, rfl⟩
theorem Good.tax (h : Good S m R G) (words : Int) : ∃ m' R', Good (S.tax words) m' R' G ∧ (S.tax words).c = S.c := by
  unfold CS.tax
  have a : ∃ m' R', Good (if S.mv = false ∧ S.c.mia ≤ S.y.used then S.minStart.2 else S) m' R' G ∧ (if S.mv = false ∧ S.c.mia ≤ S.y.used then S.minStart.2 else S).c = S.c := by
    split
    · obtain ⟨m', h1, h2, _⟩ := h.minStart; exact ⟨m', R, h1, h2⟩
    · exact ⟨m, R, h, rfl⟩
  obtain ⟨m1, R1, h1, c1⟩ := a
  generalize (if S.mv = false ∧ S.c.mia ≤ S.y.used then S.minStart.2 else S) = S1 at h1 c1 ⊢
  simp only []
  have b : ∃ m' R', Good (if S1.ph = 0 ∧ (Ma.freeN S1.o.l : Int) ≤ S1.c.maa then S1.majStart.2 else S1) m' R' G ∧ (if S1.ph = 0 ∧ (Ma.freeN S1.o.l : Int) ≤ S1.c.maa then S1.majStart.2 else S1).c = S1.c := by
    split
    · obtain ⟨m', h1, h2, _⟩ := h1.majStart; exact ⟨m', R1, h1, h2.c⟩
    · exact ⟨m1, R1, h1, rfl⟩
  obtain ⟨m2, R2, h2, c2⟩ := b
  generalize (if S1.ph = 0 ∧ (Ma.freeN S1.o.l : Int) ≤ S1.c.maa then S1.majStart.2 else S1) = S2 at h2 c2 ⊢
  obtain ⟨m3, R3, h3, c3⟩ := h2.minRun (quant words S2.c.mi)
  obtain ⟨m4, R4, h4, c4⟩ := h3.majRun (quant words (S2.minRun (quant words S2.c.mi)).2.c.ma)
  exact ⟨m4, R4, h4, c4.trans (c3.trans (c2.trans c1))⟩
/-- What one sees of an answer. -/
def seenA (x : A5) (a : An) : An := if x.kind = 11 ∨ x.kind = 12 then erA a.e else a
def toAn (a : Gr.GA) : An := ⟨a.e, a.yes, a.n, a.v⟩
theorem Good.readF (h : Good S m R G) (x n : Int) : (⟨(S.readF x n).2, false, 0, (S.readF x n).1⟩ : An) = toAn (Gr.gread G x n) := by
  unfold CS.readF Gr.gread
  rcases h.obj x with ⟨_, w, e⟩ | ⟨w, e⟩ | ⟨w, a, p, e, hp, hi, hR, hw, hf, nd⟩
  · rw [e, w]; rfl
  · rw [e, w]; rfl
  · rw [e, w, if_pos rfl]
    simp only []
    rw [if_neg (by simp), ← hi]
    have pt := nd.ptrs
    have sz := nd.size
    by_cases hn : n < 0 ∨ p.hd.size - p.hd.ptrs ≤ n
    · rw [if_pos hn, if_neg (by rw [Gr.inL_iff]; omega)]; rfl
    · rw [if_neg hn, if_pos ((Gr.inL_iff _ _).2 (by omega))]
      have g := h.inv.geo
      have H := g.rep.at_ a p hp
      have gd := H.good
      unfold Hea.Hd.good at gd
      have fit := H.fit; have a0 := H.a0
      unfold OR.n at fit
      have pl := H.place g.rep.len (n := p.hd.ptrs + n) (by omega) (by omega)
      have fl := h.inv.fld hp (n := p.hd.ptrs + n) (by omega) (by omega)
      have sc := nd.scal n.toNat (by omega)
      have ei : (p.hd.ptrs + n).toNat = (Gr.nod G p.id).refs.length + n.toNat := by omega
      rw [fl, ei, sc, pl]
      have : Ob.erW S.ws (a + 2 + (p.hd.ptrs + n)) = 0 := by unfold Ob.erW; rw [if_pos (inn_iff.2 ⟨by omega, by omega⟩)]
      rw [this]; rfl
theorem Good.den_eq (h : Good S m R G) {v v' : Int} {q q' : Nat} (hv : v ∈ S.tb) (hv' : v' ∈ S.tb) (d : Den m R v q) (d' : Den m R v' q') : v = v' ↔ q = q' := by
  have g := h.inv.geo
  constructor
  · rintro rfl; exact d.fn g.nz d'
  · rintro rfl
    rcases d with ⟨e, e'⟩ | ⟨e1, _, p, hp, e2⟩
    · rcases d' with ⟨f, _⟩ | ⟨f, _⟩
      · rw [e, f]
      · exact (f e').elim
    · rcases d' with ⟨_, f⟩ | ⟨_, _, p', hp', e3⟩
      · exact (e1 f).elim
      · exact g.uniq v v' p p' hp hp' (g.here hp (h.nof v hv)) (g.here hp' (h.nof v' hv')) (e2.trans e3.symm)
theorem Good.sameH (h : Good S m R G) (a b : Int) : (⟨(S.sameH a b).2, (S.sameH a b).1, 0, 0⟩ : An) = toAn (Gr.gsame G a b) := by
  unfold CS.sameH Gr.gsame
  rcases h.get a with ⟨h1, e⟩ | ⟨h1, v, e, h2, h3, h4, h5, h6⟩
  · rw [e, h1]; rfl
  · rcases h.get b with ⟨k1, e'⟩ | ⟨k1, v', e', k2, k3, k4, k5, k6⟩
    · rw [e, e', h1, k1]; rfl
    · rw [e, e', h1, k1, if_neg (by simp)]
      have := h.den_eq h6 k6 h5 k5
      show (⟨0, decide (v = v'), 0, 0⟩ : An) = ⟨0, decide (Gr.held G a = Gr.held G b), 0, 0⟩
      rw [decide_eq_decide.2 this]
theorem Good.nilH (h : Good S m R G) (a : Int) : (⟨(S.nilH a).2, (S.nilH a).1, 0, 0⟩ : An) = toAn (Gr.gnil G a) := by
  unfold CS.nilH Gr.gnil
  rcases h.get a with ⟨h1, e⟩ | ⟨h1, v, e, h2, h3, h4, h5, h6⟩
  · rw [e, h1]; rfl
  · rw [e, h1, if_pos rfl]
    have : v = 0 ↔ Gr.held G a = 0 := by
      rcases h5 with ⟨e1, e2⟩ | ⟨e1, _, p, hp, _⟩
      · simp [e1, e2]
      · constructor
        · rintro rfl; rw [h.inv.geo.nz] at hp; cases hp
        · intro hh; exact (e1 hh).elim
    show (⟨0, decide ((0 : Int) = 0) && decide (v = 0), 0, 0⟩ : An) = ⟨0, decide (Gr.held G a = 0), 0, 0⟩
    rw [decide_eq_decide.2 this]; rfl
theorem Good.shapeH (h : Good S m R G) (a : Int) : (⟨(S.shapeH a).2.2, false, (S.shapeH a).1, IntKind.u64.wrap (S.shapeH a).2.1⟩ : An) = toAn (Gr.gshape G a) := by
  unfold CS.shapeH Gr.gshape
  rcases h.obj a with ⟨_, w, e⟩ | ⟨w, e⟩ | ⟨w, v, p, e, hp, hi, hR, hw, hf, nd⟩
  · rw [e, w]; rfl
  · rw [e, w]; rfl
  · rw [e, w, if_pos rfl]
    simp only []
    rw [if_neg (by simp), ← hi]
    have pt := nd.ptrs
    have sz := nd.size
    have gd := (h.inv.geo.rep.at_ v p hp).good
    unfold Hea.Hd.good at gd
    show (⟨0, false, p.hd.ptrs, IntKind.u64.wrap (p.hd.size - p.hd.ptrs)⟩ : An) = ⟨0, false, ((Gr.nod G p.id).refs.length : Nat), ((Gr.nod G p.id).scal.length : Nat)⟩
    rw [u64_small (by omega), pt, sz]
    congr 1; omega
/-- A heap does what a graph does; but that there may be no room. -/
theorem Good.doS (h : Good S m R G) (x : A5) (hx : x.wf) : (S.doS x).2.c = S.c ∧
    ((x.kind = 1 ∧ (S.doS x).1 = erA 7 ∧ (Gr.gdo G x).1 = Gr.err 0 ∧ ∃ m' R', Good (S.doS x).2 m' R' G) ∨ (seenA x (S.doS x).1 = toAn (Gr.gdo G x).1 ∧ ∃ m' R', Good (S.doS x).2 m' R' (Gr.gdo G x).2)) := by
  have pr : ∀ {r : Int × CS} {g : Int × Gr.GS}, Goes r g S.c → x.kind ≠ 11 → x.kind ≠ 12 → (pr1 r).2.c = S.c ∧ (seenA x (pr1 r).1 = toAn (Gr.ans g).1 ∧ ∃ m' R', Good (pr1 r).2 m' R' (Gr.ans g).2) := fun {r g} hg h1 h2 => by
    obtain ⟨e1, e2, e3⟩ := hg
    refine ⟨e3, ?_, e2⟩
    unfold seenA
    rw [if_neg (by omega)]
    show erA r.1 = toAn (Gr.err g.1)
    rw [e1]; rfl
  have sn : ∀ a : An, x.kind ≠ 11 → x.kind ≠ 12 → seenA x a = a := fun a h1 h2 => by unfold seenA; rw [if_neg (by omega)]
  unfold CS.doS Gr.gdo
  by_cases k1 : x.kind = 1
  · rw [if_pos k1, if_pos k1]
    unfold CS.doMake
    have tx : ∃ m' R', Good (if 0 ≤ x.b ∧ 0 ≤ x.c ∧ x.b ≤ S.c.l ∧ x.c ≤ S.c.l - x.b then S.tax (x.b + x.c + 2) else S) m' R' G ∧ (if 0 ≤ x.b ∧ 0 ≤ x.c ∧ x.b ≤ S.c.l ∧ x.c ≤ S.c.l - x.b then S.tax (x.b + x.c + 2) else S).c = S.c := by
      split
      · exact h.tax _
      · exact ⟨m, R, h, rfl⟩
    obtain ⟨m1, R1, h1, c1⟩ := tx
    generalize (if 0 ≤ x.b ∧ 0 ≤ x.c ∧ x.b ≤ S.c.l ∧ x.c ≤ S.c.l - x.b then S.tax (x.b + x.c + 2) else S) = S1 at h1 c1 ⊢
    dsimp only
    rcases h1.make x.a x.b x.c with ⟨e, e1, e2⟩ | hg
    · rw [e]
      refine ⟨c1, .inl ⟨k1, rfl, ?_, m1, R1, h1⟩⟩
      unfold Gr.gmake; rw [e1, if_pos rfl, e2, if_pos rfl]; rfl
    · have := pr (c1 ▸ hg) (by omega) (by omega)
      exact ⟨this.1, .inr this.2⟩
  · rw [if_neg k1, if_neg k1]
    by_cases k2 : x.kind = 2
    · rw [if_pos k2, if_pos k2]
      have := pr (h.getF x.a x.b x.c) (by omega) (by omega)
      exact ⟨this.1, .inr this.2⟩
    · rw [if_neg k2, if_neg k2]
      by_cases k3 : x.kind = 3
      · rw [if_pos k3, if_pos k3]
        have := pr (h.setF x.a x.b x.c) (by omega) (by omega)
        exact ⟨this.1, .inr this.2⟩
      · rw [if_neg k3, if_neg k3]
        by_cases k4 : x.kind = 4
        · rw [if_neg (by omega), if_neg (by omega), if_neg (by omega), if_neg (by omega), if_neg (by omega), if_pos k4]
          refine ⟨rfl, .inr ⟨?_, m, R, h⟩⟩
          rw [sn _ (by omega) (by omega)]
          unfold CS.asks; rw [if_pos k4]; exact h.readF x.a x.b
        · rw [if_neg k4]
          by_cases k5 : x.kind = 5
          · rw [if_pos k5, if_pos k5]
            have := pr (h.writeF x.a x.b x.v hx.2.2.2.2) (by omega) (by omega)
            exact ⟨this.1, .inr this.2⟩
          · rw [if_neg k5, if_neg k5]
            by_cases k6 : x.kind = 6
            · rw [if_pos k6, if_pos k6]
              have := pr (h.clearH x.a) (by omega) (by omega)
              exact ⟨this.1, .inr this.2⟩
            · rw [if_neg k6, if_neg k6]
              by_cases k7 : x.kind = 7
              · rw [if_pos k7, if_pos k7]
                have := pr (h.copyH x.a x.b) (by omega) (by omega)
                exact ⟨this.1, .inr this.2⟩
              · rw [if_neg k7, if_neg k7]
                by_cases k11 : x.kind = 11
                · rw [if_pos k11, if_neg (by omega), if_neg (by omega), if_neg (by omega), if_pos (.inl k11)]
                  unfold CS.doIdle Gr.gidle
                  simp only []
                  by_cases a0 : x.a = 0
                  · rw [if_pos a0, if_pos (.inl a0)]
                    obtain ⟨m', R', h', c'⟩ := h.minRun (mm x.b 0 1048576)
                    refine ⟨c', .inr ⟨?_, m', R', h'⟩⟩
                    unfold seenA; rw [if_pos (.inl k11)]; rfl
                  · rw [if_neg a0]
                    by_cases a1 : x.a = 1
                    · rw [if_pos a1, if_pos (.inr a1)]
                      obtain ⟨m', R', h', c'⟩ := h.majRun (mm x.b 0 1048576)
                      refine ⟨c', .inr ⟨?_, m', R', h'⟩⟩
                      unfold seenA; rw [if_pos (.inl k11)]; rfl
                    · rw [if_neg a1, if_neg (by omega)]
                      refine ⟨rfl, .inr ⟨?_, m, R, h⟩⟩
                      unfold seenA; rw [if_pos (.inl k11)]; rfl
                · rw [if_neg k11]
                  by_cases k12 : x.kind = 12
                  · rw [if_pos k12, if_neg (by omega), if_neg (by omega), if_neg (by omega), if_pos (.inr k12)]
                    unfold CS.doForce Gr.gidle
                    by_cases a0 : x.a = 0
                    · rw [if_pos a0, if_pos (.inl a0)]
                      obtain ⟨m', h', c', _⟩ := h.minStart
                      refine ⟨c', .inr ⟨?_, m', R, h'⟩⟩
                      unfold seenA; rw [if_pos (.inr k12)]; rfl
                    · rw [if_neg a0]
                      by_cases a1 : x.a = 1
                      · rw [if_pos a1, if_pos (.inr a1)]
                        obtain ⟨m', h', f', _⟩ := h.majStart
                        refine ⟨f'.c, .inr ⟨?_, m', R, h'⟩⟩
                        unfold seenA; rw [if_pos (.inr k12)]; rfl
                      · rw [if_neg a1, if_neg (by omega)]
                        refine ⟨rfl, .inr ⟨?_, m, R, h⟩⟩
                        unfold seenA; rw [if_pos (.inr k12)]; rfl
                  · rw [if_neg k12]
                    refine ⟨by (repeat' split) <;> rfl, .inr ⟨?_, ?_⟩⟩
                    · rw [sn _ k11 k12]
                      unfold CS.asks
                      rw [if_neg k4]
                      by_cases k8 : x.kind = 8
                      · rw [if_pos k8, if_pos k8]; exact h.sameH x.a x.b
                      · rw [if_neg k8, if_neg k8]
                        by_cases k9 : x.kind = 9
                        · rw [if_pos k9, if_pos k9]; exact h.nilH x.a
                        · rw [if_neg k9, if_neg k9]
                          by_cases k10 : x.kind = 10
                          · rw [if_pos k10, if_pos k10]; exact h.shapeH x.a
                          · rw [if_neg k10, if_neg k10, if_neg (by omega)]; rfl
                    · refine ⟨m, R, ?_⟩
                      by_cases k8 : x.kind = 8
                      · rw [if_pos k8]; exact h
                      · rw [if_neg k8]
                        by_cases k9 : x.kind = 9
                        · rw [if_pos k9]; exact h
                        · rw [if_neg k9]
                          by_cases k10 : x.kind = 10
                          · rw [if_pos k10]; exact h
                          · rw [if_neg k10, if_neg (by omega)]; exact h
end
end Go.Proofs.YtihmkkjmnbehbaaGreat.Wh
/- A heap that is new stands for a graph that is new. No condition. -/
set_option linter.unusedVariables false
set_option linter.unusedSimpArgs false
namespace Go.Proofs.YtihmkkjmnbehbaaGreat.Wh
open Go.RowKit Go.Proofs.YtihmkkjmnbehbaaGreat.W
theorem mnew_no (f p n : Int) (x : Int) : (Ma.mnew f p n).has x = false := by
  cases h : (Ma.mnew f p n).has x with
  | false => rfl
  | true =>
    obtain ⟨i, k, q, hu⟩ := (Ma.has_iff (Ma.mnew_ok f p n)).1 h
    have e : q = Ma.fre := List.eq_of_mem_replicate (List.mem_of_getElem? hu.1)
    rcases hu.2 with ⟨h2, _⟩ | ⟨h1, _⟩
    · rw [e] at h2; exact absurd h2 (by decide)
    · rw [e] at h1; exact absurd h1 (by decide)
theorem Good.new {c : CF} (h : CFok c) : Good (cnew c) (fun _ => none) (fun _ => False) (Gr.gnew c.h c.l) := by
  have pw := h.pw
  have n0 := h.n0; have n1 := h.n1; have p0 := h.p0; have p1 := h.p1; have w0 := h.w0; have w1 := h.w1; have h0 := h.h0; have h1 := h.h1; have l0 := h.l0; have l1 := h.l1
  have nb := Cd.num_b (w := c.p * c.w) (c := c.c) pw.1 h.c0
  have mat : c.mat = 1 + 2 * c.n := rfl
  have wd : c.words = c.mat + c.p * c.w := rfl
  have cf : Ma.cut3 0 1048576 c.mat = c.mat := by unfold Ma.cut3; rw [if_neg (by omega), if_neg (by omega)]
  have cw : Ma.cut3 1 256 c.w = c.w := by unfold Ma.cut3; rw [if_neg (by omega), if_neg (by omega)]
  have cp : Ma.cut3 0 64 c.p = c.p := by unfold Ma.cut3; rw [if_neg (by omega), if_neg (by omega)]
  have ch : (Gr.clamp64 c.h : Int) = c.h ∧ Gr.clamp64 c.h = c.h.toNat := by unfold Gr.clamp64; rw [if_neg (by omega), if_neg (by omega)]; omega
  have cl : (Gr.clamp64 c.l : Int) = c.l := by unfold Gr.clamp64; rw [if_neg (by omega), if_neg (by omega)]; omega
  have nm : ∀ {p : OR} {C : Prop}, (none : Option OR) = some p → C := fun h => by cases h
  have tb : ∀ x, x ∈ (cnew c).tb → x = 0 := fun x hx => List.eq_of_mem_replicate hx
  refine ⟨⟨⟨h, ⟨fun a o ha => nm ha, fun a b o p ha _ => nm ha, ?_⟩, ?_, .inl ⟨rfl, rfl⟩, ?_, ?_, rfl, cf, cw, ?_, Ma.si_new _ _ _, fun a p ha => nm ha, fun a ha => ?_, ⟨[], rfl⟩, (fun hh => by cases hh), ⟨[], by show (1 + c.n : Int) = 1 + c.n + 0; omega, (fun hh => by cases hh)⟩, (fun hh => by cases hh), fun _ => rfl, fun a p ha => nm ha, fun a b p q ha _ => nm ha, fun a p ha => nm ha⟩,
    ⟨⟨rfl, rfl, rfl, rfl, ?_, ?_⟩, fun a p ha => nm ha, fun _ a p ha => nm ha, fun a p ha => nm ha, fun a p ha => nm ha, fun a p ha => nm ha, (fun x hx => by cases hx), (fun hh => by cases hh), fun _ => ⟨rfl, ?_⟩⟩,
    ⟨Gr.gnew_ok _ _, cl, ?_, ?_, fun i hi => .inl ⟨?_, ?_⟩, fun a p ha => nm ha⟩,
    ⟨.inl rfl, .inl rfl, by simp [cnew], rfl, by simp [cnew]; have := h.s0; omega, fun a p ha => nm ha, (fun hh => by cases hh), fun _ => ⟨rfl, rfl⟩, fun _ a p ha => nm ha, (fun s hs => by cases hs), fun _ a p ha => nm ha, (fun hh => by cases hh)⟩⟩, fun x hx => ?_, (fun hh => by cases hh)⟩
  · show (List.replicate c.words.toNat (0 : Int)).length ≤ 1048576
    rw [List.length_replicate]; omega
  · show ((List.replicate c.words.toNat (0 : Int)).length : Int) = c.words
    rw [List.length_replicate]; omega
  · show (0 : Int) ≤ 0 ∧ (0 : Int) ≤ c.n; omega
  · show (0 : Int) ≤ 0 ∧ (0 : Int) ≤ c.n; omega
  · show ((List.replicate (Ma.cut3 0 64 c.p).toNat Ma.fre).length : Int) = c.p
    rw [List.length_replicate, cp]; omega
  · rw [show (cnew c).o = Ma.mnew c.mat c.p c.w from rfl, mnew_no] at ha; cases ha
  · show ((List.replicate (Cd.Cd.num (c.p * c.w) c.c).toNat false).length : Int) = Cd.Cd.num (c.p * c.w) c.c
    rw [List.length_replicate]; omega
  · show ((List.replicate (Cd.Cd.num (c.p * c.w) c.c).toNat false).length : Int) = Cd.Cd.num (c.p * c.w) c.c
    rw [List.length_replicate]; omega
  · show (((([] : List Int).length + (List.replicate (Cd.Cd.num (c.p * c.w) c.c).toNat false).count true : Nat)) : Int) ≤ 0
    rw [List.count_replicate]; simp
  · show ((List.replicate c.h.toNat (0 : Int)).length : Int) = c.h
    rw [List.length_replicate]; omega
  · show (List.replicate c.h.toNat (0 : Int)).length = (List.replicate (Gr.clamp64 c.h) 0).length
    rw [List.length_replicate, List.length_replicate, ch.2]
  · show (List.replicate c.h.toNat (0 : Int))[i]?.getD 0 = 0
    rw [List.getElem?_replicate]; split <;> rfl
  · show (List.replicate (Gr.clamp64 c.h) 0)[i]?.getD 0 = 0
    rw [List.getElem?_replicate]; split <;> rfl
  · rw [tb x hx]
    show ¬ ((1 + c.n) ≤ 0 ∧ _)
    omega
end Go.Proofs.YtihmkkjmnbehbaaGreat.Wh
/- Many bits of the minor cycle: the walk. Condition: the heap is as it should be. -/
set_option linter.unusedVariables false
set_option linter.unusedSimpArgs false
namespace Go.Proofs.YtihmkkjmnbehbaaGreat.Wh
open Go.RowKit Go.Proofs.YtihmkkjmnbehbaaGreat.W Go.Proofs.YtihmkkjmnbehbaaGreat.Sm
/-- A heap that is as it should be. -/
def Ok (S : CS) : Prop := ∃ m R G, Good S m R G
theorem Ok.nb {S : CS} (h : Ok S) : NB S := by
  obtain ⟨m, R, G, h⟩ := h
  have g := h.inv.geo
  have mn := h.inv.mn
  have wd := g.words
  refine ⟨?_, fun x hx => ?_, fun x hx => ?_, fun hm => ?_⟩
  · unfold RB
    cases hm : S.mv with
    | true =>
      have := mn.rowl hm
      obtain ⟨L, hL, hu⟩ := g.fch
      have u := hu hm
      have s : 0 ≤ unm m L := sum_nn (f := uw m) (L := L) (fun z => uw_nn g.rep z)
      have := g.y2; have := g.cf.n1
      omega
    | false => rw [(mn.idle hm).1]; simp
  · obtain ⟨q, hq, _⟩ := h.inv.mks.glR x hx
    have := g.rng hq
    exact ⟨by omega, by omega⟩
  · have := mn.rowm x hx; exact ⟨by omega, by omega⟩
  · have := g.sc hm; have := g.y0; have := g.y1; have := g.cf.n1; omega
theorem Ok.minStep {S : CS} (h : Ok S) : Ok S.minStep.2 ∧ S.minStep.2.c = S.c ∧ 0 ≤ S.minStep.1.1 ∧ S.minStep.1.1 ≤ 1100000 := by
  obtain ⟨m, R, G, h⟩ := h
  obtain ⟨m', R', h1, h2, h3, h4⟩ := h.minStep
  refine ⟨⟨m', R', G, h1⟩, h2, ?_⟩
  cases hm : S.mv with
  | true => have := h4 hm; exact ⟨this.1, this.2.1⟩
  | false => rw [h3 hm]; simp
theorem minStep_pos (S : CS) (h : S.minStep.1.2 = true) : 1 ≤ S.minStep.1.1 := by
  cases hm : S.mv with
  | false =>
    have : S.minStep = ((0, false), S) := by unfold CS.minStep; rw [if_pos hm]
    rw [this] at h; cases h
  | true =>
    have tb : ∀ (S' : CS) (a : Int), 2 ≤ (S'.through a).1 := fun S' a => (words_b _).1
    cases hrow : S.row with
    | cons a r =>
      rw [step_cons hm hrow]
      split
      · simp
      · have := tb { S with row := r } a
        show 1 ≤ (CS.through { S with row := r } a).1 + 1; omega
    | nil =>
      rw [step_nil hm hrow] at h ⊢
      split
      · split
        · have := partL_b (Ma.stL S.o.f S.o.w S.r.said.1.1 S.r.said.1.2 S.o.l 0) 0 { S with r := S.r.next }
          show 1 ≤ (CS.partL (Ma.stL S.o.f S.o.w S.r.said.1.1 S.r.said.1.2 S.o.l 0) 0 { S with r := S.r.next }).1 + 1
          omega
        · have := noted_row { S with r := S.r.next } S.r.said.1.1
          show 1 ≤ (CS.noted { S with r := S.r.next } S.r.said.1.1).1 + 1
          omega
      · split
        · have := tb { S with r := S.r.next } S.scan
          show 1 ≤ (CS.through { S with r := S.r.next } S.scan).1; omega
        · simp
section
variable {W w : World} {oo : Nat → Prop} {k : CK} {S : CS} {l : List Pr} {F : FuncId} {args : Array Value}
set_option maxHeartbeats 4000000 in
theorem Run_in (work : Int) (hw : 0 ≤ work ∧ work ≤ 70000000) (hO : Ok S) (h : SepO W oo w (cparts k S ++ l)) : Calls Tryz.prog 79 #[pt k.c, .int .i64 work] w fun e w' => e = .returned (.int .i64 (S.minRun work).1) ∧ ∃ A m, SepO W oo w' (cparts (k.rw A m) (S.minRun work).2 ++ l) := by
  have hbl := (c_at h).2.2.1
  have H := Lib.hid h
  obtain ⟨R, hR⟩ : ∃ R, S.minRun work = R := ⟨_, rfl⟩
  rw [hR]
  have hRe : CS.runG CS.minStep work work.toNat 0 S = R := hR
  obtain ⟨hw0, hw1⟩ := hw
  have HR := Lib.hid hRe
  clear h hR hRe
  go_enter Tryz.func79, Tryz.ntmps79
  go_wp2_with fail
  go_loopg [5, 6, 7] work.toNat (fun gk n5 s6 s7 wr => ∃ (d : Int) (S' : CS) (A : Option Addr) (m : Nat), n5 = .int .i64 d ∧ 0 ≤ d ∧ d ≤ work + 1100000 ∧ work - d ≤ gk ∧ Ok S' ∧ CS.runG CS.minStep work gk d S' = R ∧ SepO W oo wr (cparts (k.rw A m) S' ++ l))
  case atStart => exact ⟨0, S, k.A, k.n, rfl, by omega, by omega, by omega, hO, HR.out, H.out⟩
  case round =>
    clear H HR hO
    obtain ⟨d, S', A, m, rfl, hd0, hd1, hgk, hO, ht, h⟩ := hrel
    by_cases hlt : d < work
    · obtain ⟨g, hg⟩ : ∃ g, gk = g + 1 := ⟨gk - 1, by omega⟩
      rw [hg] at ht hgk
      unfold CS.runG at ht
      rw [if_pos hlt] at ht
      have hst := Step_in (k := k.rw A m) (l := l) hO.nb h
      obtain ⟨o1, o2, o3, o4⟩ := hO.minStep
      have hps := minStep_pos S'
      obtain ⟨⟨⟨n, more⟩, T⟩, hT⟩ : ∃ T, S'.minStep = T := ⟨_, rfl⟩
      rw [hT] at hst ht o1 o3 o4 hps
      simp only [] at hst ht o1 o3 o4 hps
      have HST := Lib.hid hst
      have HT := Lib.hid ht
      have HG := Lib.hid hg
      have HO := Lib.hid o1
      have hbl2 := (c_at h).2.2.1
      replace hbl2 : k.c < wr.heap.size := hbl2
      have hwd : wrap64 (d + n) = d + n := by unfold wrap64; omega
      cases more
      · have hRe : (d + n, T) = R := by have := HT.out; simpa using this
        subst hRe
        clear h hst ht hT hO hg hps o1
        go_wp2_with fail
        refine HST.out.mono ?_
        rintro e w2 ⟨rfl, A2, m2, h2⟩
        have H2 := Lib.hid h2
        clear h2 HST
        go_wp2_with fail
        go_ret
        exact ⟨rfl, _, _, H2.out⟩
      · have hps := hps rfl
        clear h hst ht hT hO hg o1
        go_wp2_with fail
        refine HST.out.mono ?_
        rintro e w2 ⟨rfl, A2, m2, h2⟩
        have H2 := Lib.hid h2
        clear h2 HST
        go_wp2_with fail
        go_roundg g
        case measure => have := HG.out; omega
        case rel => exact ⟨d + n, T, A2, m2, by first | rfl | rw [hwd], by omega, by omega, by omega, HO.out, by have := HT.out; simpa using this, H2.out⟩
    · have hRe : R = (d, S') := by
        rw [← ht]
        cases gk with
        | zero => rfl
        | succ g => unfold CS.runG; rw [if_neg hlt]
      subst hRe
      have H1 := Lib.hid h
      clear h ht hO
      go_wp2_with fail
      go_ret
      exact ⟨rfl, _, _, H1.out⟩
end
end Go.Proofs.YtihmkkjmnbehbaaGreat.Wh
