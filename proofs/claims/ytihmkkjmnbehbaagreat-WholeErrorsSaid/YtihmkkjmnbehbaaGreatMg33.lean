/- Texts of the whole heap, joined: WqR. No condition beside those that each lemma names. -/
import Derived.Test.YtihmkkjmnbehbaaGreatMg32
/- The major cycle keeps what holds of a heap, and ends. No condition. -/
set_option linter.unusedVariables false
set_option linter.unusedSimpArgs false
namespace Go.Proofs.YtihmkkjmnbehbaaGreat.Wh
open Go.RowKit Go.Proofs.YtihmkkjmnbehbaaGreat.W
/-- How much is to be done still. -/
def gms (S : CS) : Int := if S.ph = 0 then 0 else if S.ph = 2 then Ma.pc S.o.l + 1 else 100 + msM S + (if 0 ≤ S.look then 66 - S.look else 0)
theorem gms1 {S : CS} (h : S.ph = 1) : gms S = 100 + msM S + (if 0 ≤ S.look then 66 - S.look else 0) := by
  unfold gms; rw [h]; rfl
/-- What the major cycle does not touch. -/
structure Far (S S' : CS) : Prop where
  c : S'.c = S.c
  y : S'.y = S.y
  mv : S'.mv = S.mv
  tb : S'.tb = S.tb
theorem Far.refl (S : CS) : Far S S := ⟨rfl, rfl, rfl, rfl⟩
theorem Far.trans {S S1 S2 : CS} (h : Far S S1) (h' : Far S1 S2) : Far S S2 := ⟨h'.c.trans h.c, h'.y.trans h.y, h'.mv.trans h.mv, h'.tb.trans h.tb⟩
theorem last_split {gl : List Int} (h : Gy.some0 gl = true) : gl = gl.take (gl.length - 1) ++ [Gy.last0 gl] := by
  have h0 : 0 < gl.length := by cases gl with
    | nil => cases h
    | cons => simp
  have e : Gy.last0 gl = gl[gl.length - 1] := by unfold Gy.last0; rw [List.getElem?_eq_getElem (by omega)]; rfl
  rw [e]
  apply List.ext_getElem?
  intro i
  by_cases hi : i < gl.length - 1
  · rw [List.getElem?_append_left (by simp; omega), List.getElem?_take, if_pos hi]
  · by_cases h1 : i = gl.length - 1
    · subst h1
      rw [List.getElem?_append_right (by simp)]
      rw [List.getElem?_eq_getElem (by omega)]
      simp
    · rw [List.getElem?_eq_none (by omega), List.getElem?_eq_none (by simp; omega)]
section
variable {S : CS} {m : Mp} {R : Nat → Prop} {G : Gr.GS} {X P Q : Int → Prop} {Z : Int → Prop}
theorem msM_nn (h : CFok S.c) : 0 ≤ msM S := by
  unfold msM; split <;> omega
theorem markS_spec (h : Good S m R G) (h1 : S.ph = 1) :
    ∃ m' R', Good S.markS.2 m' R' G ∧ Far S S.markS.2 ∧ 0 ≤ S.markS.1 ∧ S.markS.1 ≤ 1100000 ∧ gms S.markS.2 < gms S := by
  have g := h.inv.geo
  have lk := h.inv.mks.lk
  have p0 := g.cf.p0
  by_cases hs : Gy.some0 S.gl = true
  · have es := last_split hs
    obtain ⟨x, hx⟩ : ∃ x, Gy.last0 S.gl = x := ⟨_, rfl⟩
    obtain ⟨gl, hgl⟩ : ∃ gl, S.gl.take (S.gl.length - 1) = gl := ⟨_, rfl⟩
    rw [hx, hgl] at es
    obtain ⟨q, q1, q2⟩ := h.inv.mks.glR x (by rw [es]; simp)
    obtain ⟨b, b1, b2, b3⟩ := g.now q1 q2
    have mk := h.inv.mks
    rw [es] at mk
    have i1 : Inv { S with gl := gl } m R G 0 non (fun z => lookP S z ∨ z = q.way) 0 0 non := ⟨g, h.inv.mn, h.inv.sim, mk.popped h1 (fun a p hp hw hh => by
      rcases hh with hh | ⟨q', t1, t2⟩
      · exact .inl hh
      · rw [q1] at t1; cases t1
        exact .inr (g.uniq a q.way p b hp b1 hw b2 (by rw [b3, t2])))⟩
    obtain ⟨m2, i2, s2, l1, l2⟩ := mthrough_spec (P' := lookP S) i1 h1 b1 b2 (fun z hz hp => hp.resolve_right hz)
    have e : S.markS = CS.mthrough { S with gl := gl } q.way := by
      unfold CS.markS
      rw [if_pos hs, hgl, hx]
      show CS.mthrough { S with gl := gl } (CS.now S x) = _
      rw [h.inv.now q1]
    obtain ⟨ws, gl', gz, eq⟩ := s2.eq
    rw [e]
    have mvl : (CS.mthrough { S with gl := gl } q.way).2.look = S.look ∧ (CS.mthrough { S with gl := gl } q.way).2.c = S.c := by rw [eq]; exact ⟨rfl, rfl⟩
    refine ⟨m2, R, ⟨by rw [lookP_eq mvl.1 mvl.2]; exact i2, by rw [eq]; exact h.nof, by have := s2.tbm h.tbm; rw [eq]; exact this⟩, by rw [eq]; exact ⟨rfl, rfl, rfl, rfl⟩, by omega, by omega, ?_⟩
    have ms := s2.ms
    have ms1 : msM { S with gl := gl } + 1 = msM S := by
      unfold msM; simp only []; rw [es]; simp; omega
    have : ∀ S' : CS, S'.ph = 1 → S'.look = S.look → S'.c = S.c → msM S' + 1 ≤ msM S → gms S' < gms S := fun S' a1 a2 a3 a4 => by
      rw [gms1 a1, gms1 h1, a2]; omega
    exact this _ (by rw [eq]; exact h1) mvl.1 mvl.2 (by omega)
  · have gl0 : S.gl = [] := by cases hg : S.gl with
      | nil => rfl
      | cons => rw [hg] at hs; exact (hs rfl).elim
    by_cases hk : 0 ≤ S.look
    · obtain ⟨m2, ws, gl, gz, look, e1, i2, s2, t2, ms, lc, l1, l2⟩ := page_spec h.inv h1 hk
      have e : S.markS = S.page := by unfold CS.markS; rw [if_neg hs, if_pos hk]
      rw [e]
      refine ⟨m2, R, ⟨i2, by rw [e1]; exact h.nof, by have := t2 h.tbm; rw [e1]; exact this⟩, by rw [e1]; exact ⟨rfl, rfl, rfl, rfl⟩, l1, by omega, ?_⟩
      have : ∀ S' : CS, S'.ph = 1 → S'.look = look → S'.c = S.c → msM S' ≤ msM S → gms S' < gms S := fun S' a1 a2 a3 a4 => by
        rw [gms1 a1, gms1 h1, a2, if_pos hk]
        have := lk.2
        rcases lc with e | ⟨e, e'⟩
        · rw [if_neg (by omega)]; omega
        · rw [if_pos (by omega)]; omega
      exact this _ (by rw [e1]; exact h1) (by rw [e1]) (by rw [e1]) ms
    · by_cases hz : S.gz = true
      · obtain ⟨m2, ws, gl, gz, e1, i2, s2, t2, ms, l1, l2⟩ := lost_spec h.inv h1 hz (by omega)
        have e : S.markS = S.lost := by unfold CS.markS; rw [if_neg hs, if_neg hk, if_pos hz]
        rw [e]
        refine ⟨m2, R, ⟨i2, by rw [e1]; exact h.nof, by have := t2 h.tbm; rw [e1]; exact this⟩, by rw [e1]; exact ⟨rfl, rfl, rfl, rfl⟩, l1, by omega, ?_⟩
        have : ∀ S' : CS, S'.ph = 1 → S'.look = 0 → S'.c = S.c → msM S' + 70 ≤ msM S → gms S' < gms S := fun S' a1 a2 a3 a4 => by
          rw [gms1 a1, gms1 h1, a2, if_neg hk, if_pos (by omega)]
          omega
        exact this _ (by rw [e1]; exact h1) (by rw [e1]) (by rw [e1]) ms
      · have hz : S.gz = false := by simpa using hz
        have e : S.markS = (1, { S with ph := 2, o := S.o.pend }) := by unfold CS.markS; rw [if_neg hs, if_neg hk, if_neg (by rw [hz]; simp)]
        have mk := h.inv.mks
        have tb := h.tbm
        rw [gl0, hz, h1] at mk
        rw [h1] at tb
        have nP : ∀ a p, m a = some p → ¬ lookP S a := fun a p _ hp => hk hp.1
        rw [e]
        refine ⟨m, (fun i => R i ∧ Mkd m S.par i), ⟨⟨(g.same (Ma.pend_has g.si).1).less (fun i hi => hi.1), h.inv.mn, h.inv.sim.ended mk tb g nP, ?_⟩, h.nof, fun hh => by cases hh⟩, ⟨rfl, rfl, rfl, rfl⟩, by simp, by simp, ?_⟩
        · show Mk S.c S.o.pend m _ S.par 2 S.look S.gm S.gl S.gz _ 0 0 non
          rw [gl0, hz]
          exact mk.ended g nP
        · have := Ma.pc_le S.o.pend.l
          have hl := g.ol; have p1 := g.cf.p1
          have el : S.o.pend.l.length = S.o.l.length := by simp [Ma.MS.pend]
          have mn := msM_nn g.cf
          have e2 : gms { S with ph := 2, o := S.o.pend } = Ma.pc S.o.pend.l + 1 := rfl
          show gms { S with ph := 2, o := S.o.pend } < _
          rw [e2, gms1 h1, if_neg hk]
          omega
theorem sweepL_spec : ∀ (L : List Int) (S : CS) (m : Mp), Inv S m R G 0 non P 0 0 (fun z => z ∈ L) → S.ph = 2 → (∀ x, x ∈ L → S.c.mat ≤ x) →
    ∃ m' o', CS.sweepL L S = { S with o := o' } ∧ Inv { S with o := o' } m' R G 0 non P 0 0 non ∧ (∀ d q, m' d = some q → m d = some q) ∧ (∀ x, x ∈ L → ∀ p, m' x = some p → p.hd.par = S.par) ∧ (∀ y n, Ma.onPg o' y n → Ma.onPg S.o y n) ∧ o'.l.length = S.o.l.length := by
  intro L
  induction L with
  | nil =>
    intro S m h h2 h0
    refine ⟨m, S.o, rfl, ⟨h.geo, h.mn, h.sim, ?_⟩, fun _ _ h => h, (fun x hx => by cases hx), fun _ _ h => h, rfl⟩
    have k := h.mks
    exact ⟨k.p01, k.ph3, k.lk, k.gms, k.gll, k.grey, k.blk, k.oth, k.cur, k.glR, k.idl, fun hh a p hp ha => (k.swp hh a p hp ha).imp_right fun e => e.imp_right fun e => by cases e⟩
  | cons x r ih =>
    intro S m h h2 h0
    have g := h.geo
    have k := h.mks
    have x0 := h0 x List.mem_cons_self
    have keep : (∀ p, m x = some p → p.hd.par = S.par) → Inv S m R G 0 non P 0 0 (fun z => z ∈ r) := fun hx =>
      ⟨h.geo, h.mn, h.sim, ⟨k.p01, k.ph3, k.lk, k.gms, k.gll, k.grey, k.blk, k.oth, k.cur, k.glR, k.idl, fun hh a p hp ha => by
        rcases k.swp hh a p hp ha with e | e | e
        · exact .inl e
        · exact .inr (.inl e)
        · rcases List.mem_cons.1 e with e | e
          · exact .inl (hx p (e ▸ hp))
          · exact .inr (.inr e)⟩⟩
    by_cases hp : (S.hd x).par ≠ S.par
    · by_cases hh : S.o.has x = true
      · obtain ⟨p, hm⟩ := g.all x hh
        rw [h.hd hm] at hp
        have gh := Ma.give_has g.si hh
        have kk := k
        rw [h2] at kk
        obtain ⟨k1, nR⟩ := kk.give g hh hm hp (Z' := fun z => z ∈ r) (fun z hz e => (List.mem_cons.1 e).resolve_left hz)
        have i1 : Inv { S with o := S.o.give x } (delM m x) R G 0 non P 0 0 (fun z => z ∈ r) := ⟨g.give hh (fun q hq => by rw [hm] at hq; cases hq; exact nR), h.mn.give g x0, h.sim.give hm nR, by
          show Mk S.c (S.o.give x) (delM m x) R S.par S.ph S.look S.gm S.gl S.gz P 0 0 _
          rw [h2]; exact k1⟩
        obtain ⟨m', o', e1, i2, l1, l2, l3, l4⟩ := ih { S with o := S.o.give x } (delM m x) i1 h2 (fun z hz => h0 z (List.mem_cons_of_mem _ hz))
        refine ⟨m', o', ?_, i2, fun d q hq => (del_get.1 (l1 d q hq)).1, fun z hz q hq => ?_, fun y n hy => gh.pg y n (l3 y n hy), l4.trans gh.len⟩
        · show CS.sweepL r (if _ then _ else _) = _
          rw [h.hd hm, if_pos hp]; exact e1
        · rcases List.mem_cons.1 hz with e | hz
          · exact ((del_get.1 (l1 z q hq)).2 e).elim
          · exact l2 z hz q hq
      · have hn : S.o.has x = false := by simpa using hh
        have nm : ∀ p, m x ≠ some p := fun p hp => hh ((has_m h x0).2 ⟨p, hp⟩)
        obtain ⟨m', o', e1, i2, l1, l2, l3, l4⟩ := ih S m (keep fun p hp => (nm p hp).elim) h2 (fun z hz => h0 z (List.mem_cons_of_mem _ hz))
        refine ⟨m', o', ?_, i2, l1, fun z hz q hq => ?_, l3, l4⟩
        · show CS.sweepL r (if _ then _ else _) = _
          rw [if_pos hp, Ma.give_not hn]; exact e1
        · rcases List.mem_cons.1 hz with e | hz
          · exact (nm q (l1 x q (e ▸ hq))).elim
          · exact l2 z hz q hq
    · have hp : (S.hd x).par = S.par := Classical.byContradiction hp
      obtain ⟨m', o', e1, i2, l1, l2, l3, l4⟩ := ih S m (keep fun p hm => by rw [← h.hd hm]; exact hp) h2 (fun z hz => h0 z (List.mem_cons_of_mem _ hz))
      refine ⟨m', o', ?_, i2, l1, fun z hz q hq => ?_, l3, l4⟩
      · show CS.sweepL r (if _ then _ else _) = _
        rw [if_neg (fun hh => hh hp)]; exact e1
      · rcases List.mem_cons.1 hz with e | hz
        · have := l1 x q (e ▸ hq)
          rw [h.hd this] at hp; exact hp
        · exact l2 z hz q hq
theorem pn_lt {l : List Ma.Pg} {k : Nat} (h : Ma.pn l = some k) : k < l.length := by
  obtain ⟨p, hp, _⟩ := Ma.pn_some h
  exact (List.getElem?_eq_some_iff.1 hp).1
/-- No page is to be swept that was not. -/
def PLe (l' l : List Ma.Pg) : Prop := l'.length = l.length ∧ ∀ (j : Nat) (q : Ma.Pg), l'[j]? = some q → q.pend = true → ∃ p : Ma.Pg, l[j]? = some p ∧ p.pend = true
theorem PLe.refl (l : List Ma.Pg) : PLe l l := ⟨rfl, fun j q h hq => ⟨q, h, hq⟩⟩
theorem PLe.trans {a b c : List Ma.Pg} (h : PLe a b) (h' : PLe b c) : PLe a c := ⟨h.1.trans h'.1, fun j q hj hq => by
  obtain ⟨p, hp, h1⟩ := h.2 j q hj hq
  exact h'.2 j p hp h1⟩
theorem PLe.le {l : List Ma.Pg} : ∀ {l' : List Ma.Pg}, PLe l' l → Ma.pc l' ≤ Ma.pc l := by
  induction l with
  | nil => intro l' h; rw [List.length_eq_zero_iff.1 h.1]; exact Nat.le_refl _
  | cons p r ih =>
    intro l' h
    cases l' with
    | nil => simp [PLe] at h
    | cons q r' =>
      have := ih (l' := r') ⟨by simpa using h.1, fun j t hj ht => by
        obtain ⟨p', h1, h2⟩ := h.2 (j + 1) t (by simpa using hj) ht
        exact ⟨p', by simpa using h1, h2⟩⟩
      unfold Ma.pc at this ⊢
      rw [List.countP_cons, List.countP_cons]
      by_cases hq : q.pend = true
      · obtain ⟨p', h1, h2⟩ := h.2 0 q rfl hq
        have : p = p' := by simpa using h1
        rw [if_pos hq, this, if_pos h2]; omega
      · rw [if_neg hq]; omega
theorem PLe.lt {l : List Ma.Pg} : ∀ {l' : List Ma.Pg} {n : Nat} {p : Ma.Pg}, PLe l' l → l[n]? = some p → p.pend = true → (∀ q, l'[n]? = some q → q.pend = false) → Ma.pc l' < Ma.pc l := by
  induction l with
  | nil => intro l' n p h hp; simp at hp
  | cons p0 r ih =>
    intro l' n p h hp hpe hn
    cases l' with
    | nil => simp [PLe] at h
    | cons q r' =>
      have ht : PLe r' r := ⟨by simpa using h.1, fun j t hj ht => by
        obtain ⟨p', h1, h2⟩ := h.2 (j + 1) t (by simpa using hj) ht
        exact ⟨p', by simpa using h1, h2⟩⟩
      cases n with
      | zero =>
        have e : p0 = p := by simpa using hp
        have hq := hn q rfl
        have := ht.le
        unfold Ma.pc at this ⊢
        rw [List.countP_cons, List.countP_cons, e, hpe, hq]
        simp; omega
      | succ n =>
        have := ih (n := n) (p := p) ht (by simpa using hp) hpe (fun t h' => hn t (by simpa using h'))
        unfold Ma.pc at this ⊢
        rw [List.countP_cons, List.countP_cons]
        by_cases hq : q.pend = true
        · obtain ⟨p', h1, h2⟩ := h.2 0 q rfl hq
          have : p0 = p' := by simpa using h1
          rw [if_pos hq, this, if_pos h2]; omega
        · rw [if_neg hq]; omega
theorem ple_give {o : Ma.MS} (hs : Ma.SI o) (x : Int) : PLe (o.give x).l o.l := by
  cases hh : o.has x with
  | false => rw [Ma.give_not hh]; exact PLe.refl _
  | true =>
    obtain ⟨i, k, p, hu⟩ := (Ma.has_iff hs.ok).1 hh
    have gh := Ma.give_has hs hh
    refine ⟨gh.len, fun j q hj hq => ?_⟩
    have h1 := hj
    unfold Ma.MS.give Ma.giveR at h1
    simp only [Ma.use_at hs.ok hu, hu.1] at h1
    split at h1
    · rename_i hk
      obtain ⟨_, _, _, h4⟩ := Ma.use_in hs.ok hu
      obtain ⟨_, _, h7, h8⟩ := h4 hk
      rw [Ma.clr_get (by omega)] at h1
      split at h1
      · cases h1; cases hq
      · exact ⟨q, h1, hq⟩
    · rw [List.getElem?_set] at h1
      split at h1
      · rename_i e
        subst e
        rw [if_pos (List.getElem?_eq_some_iff.1 hu.1).1] at h1
        unfold Ma.gvP at h1
        split at h1
        · cases h1; cases hq
        · cases h1; exact ⟨p, hu.1, hq⟩
      · exact ⟨q, h1, hq⟩
theorem ple_sweepL (L : List Int) : ∀ (S : CS), Ma.SI S.o → PLe (CS.sweepL L S).o.l S.o.l := by
  induction L with
  | nil => intro S h; exact PLe.refl _
  | cons x r ih =>
    intro S h
    unfold CS.sweepL
    split
    · exact (ih { S with o := S.o.give x } (Ma.si_give h x)).trans (ple_give h x)
    · exact ih S h
theorem done_at (o : Ma.MS) (n : Nat) : PLe (o.done n).l o.l ∧ ∀ q, (o.done n).l[n]? = some q → q.pend = false := by
  have key : (Ma.doneB o.l n = true ∧ (o.done n).l = o.l.modify n Ma.unP) ∨ (Ma.doneB o.l n = false ∧ (o.done n).l = o.l) := by
    unfold Ma.MS.done Ma.doneR
    by_cases hd : Ma.doneB o.l n = true
    · rw [if_pos hd, Int.toNat_natCast]; exact .inl ⟨hd, rfl⟩
    · rw [if_neg hd]; exact .inr ⟨by simpa using hd, rfl⟩
  rcases key with ⟨h1, e⟩ | ⟨h1, e⟩
  · rw [e]
    refine ⟨⟨by simp, fun j q hj hq => ?_⟩, fun q hq => ?_⟩
    · rw [List.getElem?_modify] at hj
      obtain ⟨p, hp, rfl⟩ := Option.map_eq_some_iff.1 hj
      split at hq
      · cases hq
      · exact ⟨p, hp, hq⟩
    · rw [List.getElem?_modify] at hq
      obtain ⟨p, hp, rfl⟩ := Option.map_eq_some_iff.1 hq
      rw [if_pos rfl]; rfl
  · rw [e]
    refine ⟨PLe.refl _, fun q hq => ?_⟩
    unfold Ma.doneB at h1
    rw [if_pos (by omega), Int.toNat_natCast, hq] at h1
    exact h1
theorem sweep_spec (h : Good S m R G) (h2 : S.ph = 2) :
    ∃ m', Good S.sweep.2 m' R G ∧ Far S S.sweep.2 ∧ 0 ≤ S.sweep.1.1 ∧ S.sweep.1.1 ≤ 1100000 ∧ ((S.sweep.1.2 = true ∧ S.sweep.2.ph = 2 ∧ gms S.sweep.2 < gms S) ∨ (S.sweep.1.2 = false ∧ S.sweep.2.ph = 0)) := by
  have g := h.inv.geo
  have k := h.inv.mks
  have o := k.oth (by omega)
  unfold CS.sweep
  cases hn : Ma.pn S.o.l with
  | none =>
    refine ⟨m, ⟨⟨g, h.inv.mn, h.inv.sim, ?_⟩, h.nof, fun hh => by cases hh⟩, ⟨rfl, rfl, rfl, rfl⟩, by simp, by simp, .inr ⟨rfl, rfl⟩⟩
    refine ⟨k.p01, .inl rfl, k.lk, k.gms, k.gll, fun a p hp hw hg => ?_, (fun hh => by cases hh), fun _ => o, fun _ => k.cur (by omega), k.glR, fun _ a p hp h0 => ?_, (fun hh => by cases hh)⟩
    · have := (k.grey a p hp hw hg).1; omega
    · rcases k.swp h2 a p hp h0 with e | e | e
      · exact e
      · exact (Ma.none_pend hn a e).elim
      · exact e.elim
  | some n =>
    have nl := pn_lt hn
    have pf : pgF S.o n = S.o.f + n * S.o.w := by unfold pgF; rw [if_pos (by omega)]
    have pt : pgT S.o n = S.o.f + n * S.o.w + S.o.w := by unfold pgT; rw [if_pos (by omega)]
    obtain ⟨L, hL⟩ : ∃ L, Ma.stL S.o.f S.o.w (pgF S.o n) (pgT S.o n) S.o.l 0 = L := ⟨_, rfl⟩
    have sl := Ma.starts_len g.si.ok (pgF S.o n) (pgT S.o n)
    rw [hL] at sl
    have mem : ∀ x, x ∈ L ↔ Ma.onPg S.o x n := fun x => by rw [← hL, pf, pt]; exact Ma.page_starts g.si nl x
    have has : ∀ x, x ∈ L → S.o.has x = true := fun x hx => by
      obtain ⟨i, p, hu⟩ := (mem x).1 hx
      exact (Ma.has_iff g.si.ok).2 ⟨n, i, p, hu⟩
    have i0 : Inv S m R G 0 non (lookP S) 0 0 (fun z => z ∈ L) := ⟨g, h.inv.mn, h.inv.sim, ⟨k.p01, k.ph3, k.lk, k.gms, k.gll, k.grey, k.blk, k.oth, k.cur, k.glR, k.idl, fun hh a p hp h0 => (k.swp hh a p hp h0).imp_right fun e => e.imp_right fun e => e.elim⟩⟩
    obtain ⟨m', o', e1, i1, l1, l2, l3, l4⟩ := sweepL_spec L S m i0 h2 (fun x hx => (g.hasm (has x hx)).1)
    have pcs := ple_sweepL L S g.si
    simp only [hL, e1]
    rw [e1] at pcs
    simp only [] at pcs
    have k1 := i1.mks
    have g1 := i1.geo
    obtain ⟨d1, d2⟩ := Ma.done_has g1.si (n := n)
    simp only [] at d1 d2
    obtain ⟨p, hp, hpe⟩ := Ma.pn_some hn
    have lt : Ma.pc (o'.done n).l < Ma.pc S.o.l := ((done_at o' n).1.trans pcs).lt hp hpe (done_at o' n).2
    refine ⟨m', ⟨⟨g1.same d1, i1.mn, i1.sim, ?_⟩, h.nof, fun hh => by have hh : S.ph = 1 := hh; omega⟩, ⟨rfl, rfl, rfl, rfl⟩, by omega, by omega, .inl ⟨trivial, h2, ?_⟩⟩
    · refine ⟨k1.p01, k1.ph3, k1.lk, k1.gms, k1.gll, k1.grey, k1.blk, k1.oth, k1.cur, k1.glR, k1.idl, fun hh a p hp h0 => ?_⟩
      rcases k1.swp hh a p hp h0 with e | e | e
      · exact .inl e
      · by_cases on : Ma.onPg o' a n
        · exact .inl (l2 a ((mem a).2 (l3 a n on)) p hp)
        · exact .inr (.inl (d2 a e on))
      · exact e.elim
    · have e2 : ∀ (S' : CS), S'.ph = 2 → gms S' = Ma.pc S'.o.l + 1 := fun S' h => by unfold gms; rw [h]; rfl
      have e3 := e2 { S with o := o'.done n } h2
      show gms { S with o := o'.done n } < _
      rw [e3, e2 S h2]
      show (Ma.pc (o'.done n).l : Int) + 1 < Ma.pc S.o.l + 1
      omega
/-- A bit of it. -/
theorem Good.majStep (h : Good S m R G) : ∃ m' R', Good S.majStep.2 m' R' G ∧ Far S S.majStep.2 ∧ (S.ph = 0 → S.majStep = ((0, false), S)) ∧
    (S.ph ≠ 0 → 0 ≤ S.majStep.1.1 ∧ S.majStep.1.1 ≤ 1100000 ∧ ((S.majStep.1.2 = true ∧ gms S.majStep.2 < gms S) ∨ (S.majStep.1.2 = false ∧ S.majStep.2.ph = 0))) := by
  by_cases h0 : S.ph = 0
  · have e : S.majStep = ((0, false), S) := by unfold CS.majStep; rw [if_pos h0]
    rw [e]
    exact ⟨m, R, h, Far.refl S, fun _ => rfl, fun hh => (hh h0).elim⟩
  · by_cases h1 : S.ph = 1
    · have e : S.majStep = ((S.markS.1, true), S.markS.2) := by unfold CS.majStep; rw [if_neg h0, if_pos h1]
      obtain ⟨m', R', g1, f1, l1, l2, l3⟩ := markS_spec h h1
      rw [e]
      exact ⟨m', R', g1, f1, fun hh => (h0 hh).elim, fun _ => ⟨l1, l2, .inl ⟨rfl, l3⟩⟩⟩
    · have h2 : S.ph = 2 := by have := h.inv.mks.ph3; omega
      have e : S.majStep = S.sweep := by unfold CS.majStep; rw [if_neg h0, if_neg h1]
      obtain ⟨m', g1, f1, l1, l2, l3⟩ := sweep_spec h h2
      rw [e]
      exact ⟨m', R, g1, f1, fun hh => (h0 hh).elim, fun _ => ⟨l1, l2, l3.imp_left fun ⟨a, _, b⟩ => ⟨a, b⟩⟩⟩
theorem Good.majRun (h : Good S m R G) (work : Int) : ∃ m' R', Good (S.majRun work).2 m' R' G ∧ (S.majRun work).2.c = S.c :=
  Good.runG (fun h => by obtain ⟨m', R', h1, h2, _⟩ := h.majStep; exact ⟨m', R', h1, h2.c⟩) _ _ _ h
theorem far_run : ∀ (k : Nat) (work done : Int) {S m R}, Good S m R G → Far S (CS.runG CS.majStep work k done S).2 := by
  intro k
  induction k with
  | zero => intro work done S m R h; exact Far.refl S
  | succ k ih =>
    intro work done S m R h
    obtain ⟨m1, R1, h1, f1, _⟩ := h.majStep
    unfold CS.runG
    split
    · split
      · exact f1.trans (ih work (done + (S.majStep).1.1) h1)
      · exact f1
    · exact Far.refl S
/-- It begins. -/
theorem Good.majStart (h : Good S m R G) : ∃ m', Good S.majStart.2 m' R G ∧ Far S S.majStart.2 ∧ S.majStart.1 = decide (S.ph = 0) := by
  by_cases h0 : S.ph = 0
  · have k := h.inv.mks
    have p01 := k.p01
    have ew : wrap64 (1 - S.par) = 1 - S.par := by unfold wrap64; omega
    have e : S.majStart = (true, CS.markL S.tb { S with ph := 1, par := 1 - S.par, look := -1 }) := by
      unfold CS.majStart; rw [if_neg (fun hh => hh h0), ew]
    have lp : ∀ {ws gl gz}, lookP ({ S with ph := 1, par := 1 - S.par, look := -1, ws := ws, gl := gl, gz := gz } : CS) = non := by
      intro ws gl gz; unfold lookP; funext z; simp
    have i1 : Inv { S with ph := 1, par := 1 - S.par, look := -1 } m R G 0 non non 0 0 non := ⟨h.inv.geo, h.inv.mn, h.inv.sim, k.begin_ h0⟩
    obtain ⟨m', i2, s2, d2⟩ := markL_spec S.tb { S with ph := 1, par := 1 - S.par, look := -1 } m i1 rfl (fun x hx => by
      obtain ⟨i, hi, e⟩ := List.getElem_of_mem hx
      have := h.inv.sim.tbD i hi
      rw [List.getElem?_eq_getElem hi, e] at this
      rcases this with ⟨e, _⟩ | ⟨_, h2, p, hp, e⟩
      · exact .inl e
      · exact .inr ⟨p, hp, e ▸ h2⟩)
    obtain ⟨ws, gl, gz, eq⟩ := s2.eq
    rw [e]
    refine ⟨m', ⟨?_, by rw [eq]; exact h.nof, fun _ x hx q hq => ?_⟩, by rw [eq]; exact ⟨rfl, rfl, rfl, rfl⟩, by simp [h0]⟩
    · show Inv (CS.markL S.tb { S with ph := 1, par := 1 - S.par, look := -1 }) m' R G 0 non (lookP (CS.markL S.tb { S with ph := 1, par := 1 - S.par, look := -1 })) 0 0 non
      have : lookP (CS.markL S.tb { S with ph := 1, par := 1 - S.par, look := -1 }) = non := by rw [eq]; exact lp
      rw [this]; exact i2
    · obtain ⟨q0, b1, _, _, _, _, _, _, b2⟩ := s2.same.back x q hq
      have hx' : x ∈ S.tb := by rw [eq] at hx; exact hx
      have := d2 x hx' q0 b1
      rw [b2]
      show Mkd m' (CS.markL S.tb { S with ph := 1, par := 1 - S.par, look := -1 }).par q0.id
      rw [eq]; exact this
  · have e : S.majStart = (false, S) := by unfold CS.majStart; rw [if_pos h0]
    rw [e]
    exact ⟨m, h, Far.refl S, by simp [h0]⟩
end
end Go.Proofs.YtihmkkjmnbehbaaGreat.Wh
