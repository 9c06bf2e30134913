/- Texts of the whole heap, joined: WqC WqD. No condition beside those that each lemma names. -/
import Derived.Test.YtihmkkjmnbehbaaGreatMg24
/- Where objects lie, when one moves, is made, when halves change their part, when one is given back. No condition. -/
set_option linter.unusedVariables false
set_option linter.unusedSimpArgs false
namespace Go.Proofs.YtihmkkjmnbehbaaGreat.Wh
open Go.RowKit Go.Proofs.YtihmkkjmnbehbaaGreat.W
/-- Room for what moves: where, and what the spaces are then. -/
structure Into (c : CF) (y : Bp.Sp) (o : Ma.MS) (b n : Int) (old : Bool) (y' : Bp.Sp) (o' : Ma.MS) : Prop where
  here : y'.here = y.here
  there : y'.there = y.there
  left : y'.left = y.left
  m : y'.m = y.m
  si : Ma.SI o'
  f : o'.f = o.f
  w : o'.w = o.w
  len : o'.l.length = o.l.length
  no : old = true → o.has b = false
  iff : ∀ z, o'.has z = true ↔ (z = b ∧ old = true) ∨ o.has z = true
  size : ∀ z, o.has z = true → o'.size z = o.size z
  pend : ∀ z, Ma.pendAt o z → Ma.pendAt o' z
  at_ : (old = true ∧ y'.used = y.used ∧ n ≤ o'.size b) ∨ (old = false ∧ b = y.here + y.used ∧ y'.used = y.used + n ∧ y.used + n ≤ c.n)
theorem take_y {y : Bp.Sp} {n : Int} (hf : y.fits n = true) : (y.take n).here = y.here ∧ (y.take n).there = y.there ∧ (y.take n).left = y.left ∧ (y.take n).used = y.used + n ∧ (y.take n).m = y.m := by
  unfold Bp.Sp.take
  rw [if_pos hf]
  unfold Bp.Sp.here Bp.Sp.there Bp.Sp.left Bp.Sp.used
  cases y.now <;> simp
def mvM (m : Mp) (a b : Int) (p : OR) (k : Hd) : Mp := upM (upM m b { p with hd := k, way := b }) a { p with way := b }
theorem mv_get {m : Mp} {a b : Int} {p : OR} {k : Hd} {c : Int} {q : OR} (h : mvM m a b p k c = some q) : (c = a ∧ q = { p with way := b }) ∨ (c = b ∧ c ≠ a ∧ q = { p with hd := k, way := b }) ∨ (c ≠ a ∧ c ≠ b ∧ m c = some q) := by
  unfold mvM at h
  by_cases e : c = a
  · subst e; rw [upM_self] at h; cases h; exact .inl ⟨rfl, rfl⟩
  · rw [upM_ne _ _ e] at h
    by_cases e2 : c = b
    · subst e2; rw [upM_self] at h; cases h; exact .inr (.inl ⟨rfl, e, rfl⟩)
    · rw [upM_ne _ _ e2] at h; exact .inr (.inr ⟨e, e2, h⟩)
theorem mv_a (m : Mp) (a b : Int) (p : OR) (k : Hd) : mvM m a b p k a = some { p with way := b } := upM_self _ _ _
theorem mv_b (m : Mp) {a b : Int} (p : OR) (k : Hd) (h : b ≠ a) : mvM m a b p k b = some { p with hd := k, way := b } := by unfold mvM; rw [upM_ne _ _ h, upM_self]
theorem mv_c (m : Mp) {a b c : Int} (p : OR) (k : Hd) (h : c ≠ a) (h2 : c ≠ b) : mvM m a b p k c = m c := by unfold mvM; rw [upM_ne _ _ h, upM_ne _ _ h2]
section
variable {c : CF} {ws : List Int} {y y' : Bp.Sp} {o o' : Ma.MS} {mv : Bool} {scan cop : Int} {m : Mp} {R R' : Nat → Prop} {N : Nat}
theorem Into.apart {b n : Int} {old : Bool} (i : Into c y o b n old y' o') (h : Geo c ws y o mv scan cop m R N) (hn : 0 < n) : (∀ d q, m d = some q → d + q.n ≤ b ∨ b + n ≤ d) ∧ 1 ≤ b ∧ b + n ≤ c.words ∧ (old = true ↔ c.mat ≤ b) ∧ ¬ inF y b := by
  have hw := h.words
  have y0 := h.y0; have y1 := h.y1; have y2 := h.y2; have n0 := h.cf.n0; have pw := h.cf.pw
  rcases i.at_ with ⟨e, e2, e3⟩ | ⟨e, e2, e3, e4⟩
  · have hb := (i.iff b).2 (.inl ⟨rfl, e⟩)
    have r := Ma.has_in i.si hb
    rw [i.f, i.w, i.len, h.of_, h.ow, h.ol] at r
    refine ⟨fun d q hq => ?_, by omega, by unfold CF.words; omega, by rw [e]; simp; omega, fun hf => by have := h.low (.inr hf); omega⟩
    rcases h.dom d q hq with ⟨h1, h2, _⟩ | ⟨h1, h2, _⟩ | ⟨h1, h2, h3, _⟩
    · unfold CF.mat at r; left; omega
    · unfold CF.mat at r; left; omega
    · have ne : d ≠ b := by rintro rfl; rw [i.no e] at h2; cases h2
      have hd := (i.iff d).2 (.inr h2)
      have := Ma.has_apart i.si hd hb ne
      rw [i.size d h2] at this
      omega
  · unfold CF.words CF.mat at hw
    refine ⟨fun d q hq => ?_, by omega, by unfold CF.words CF.mat; omega, ⟨(fun hh => by rw [e] at hh; cases hh), fun hh => by unfold CF.mat at hh; omega⟩, fun hf => by unfold inF at hf; omega⟩
    rcases h.dom d q hq with ⟨h1, h2, _⟩ | ⟨h1, h2, _⟩ | ⟨h1, h2, h3, _⟩
    · left; omega
    · have := (h.rep.at_ d q hq).n2
      unfold inF at h1; omega
    · unfold CF.mat at h1; right; omega
theorem Geo.move {a b : Int} {p : OR} {k : Hd} (h : Geo c ws y o mv scan cop m R N) (hm : mv = true) (hp : m a = some p) (hf : inF y a) (hw : p.way = a) (hg : k.good) (ks : k.size = p.hd.size) (i : Into c y o b p.n k.old y' o') :
    Geo c (Ob.mvW ws a b k) y' o' mv scan (cop + p.n) (mvM m a b p k) R N := by
  have H := h.rep.at_ a p hp
  have n2 := H.n2
  obtain ⟨ap, b0, b1, bo, bf⟩ := i.apart h (by omega)
  have nb := h.rep.free (by omega) ap
  have nab : b ≠ a := by rintro rfl; rw [nb] at hp; cases hp
  obtain ⟨R, hl⟩ := h.rep.move hp hg ks b0 (by rw [h.wl]; exact b1) ap
  have en : (⟨k, b, p.fl, p.id⟩ : OR).n = p.n := by unfold OR.n; rw [ks]
  have use : y.used ≤ y'.used ∧ y'.used ≤ c.n := by have := h.y1; rcases i.at_ with ⟨_, e, _⟩ | ⟨_, _, e, _⟩ <;> omega
  have same : ∀ d q, m d = some q → ∃ q', mvM m a b p k d = some q' ∧ q'.n = q.n ∧ q'.id = q.id := fun d q hq => by
    have n1 : d ≠ b := by rintro rfl; rw [nb] at hq; cases hq
    by_cases e : d = a
    · subst e; rw [hp] at hq; cases hq; exact ⟨_, mv_a _ _ _ _ _, rfl, rfl⟩
    · exact ⟨q, by rw [mv_c m p k e n1]; exact hq, rfl, rfl⟩
  have ch : ∀ {L s e}, Chain m L s e → Chain (mvM m a b p k) L s e := fun hc => hc.mono fun x _ q hq => by
    obtain ⟨q', h1, h2, _⟩ := same x q hq; exact ⟨q', h1, h2⟩
  have tch : ∀ {L s}, Chain m L s (y.here + y.used) → ∃ L', Chain (mvM m a b p k) L' s (y'.here + y'.used) := fun {L s} hc => by
    rcases i.at_ with ⟨_, e, _⟩ | ⟨_, e, e2, _⟩
    · exact ⟨L, by rw [i.here, e]; exact ch hc⟩
    · have hc' := ch hc
      rw [← e] at hc'
      have := hc'.snoc (mv_b m p k nab)
      rw [en] at this
      exact ⟨_, by rw [i.here, e2, ← Int.add_assoc, ← e]; exact this⟩
  have iF : ∀ z, inF y' z ↔ inF y z := fun z => by unfold inF; rw [i.there, i.left]
  have iT : ∀ z, inT y z → inT y' z := fun z hz => by unfold inT at hz ⊢; rw [i.here]; omega
  refine ⟨h.cf, R, by rw [hl]; exact h.wl, by rw [i.here, i.there]; exact h.y0, ⟨by have := h.y1; omega, use.2⟩, by rw [i.left]; exact h.y2, by rw [i.m]; exact h.y3, i.f.trans h.of_, i.w.trans h.ow, by rw [i.len]; exact h.ol, i.si, fun d q hq => ?_, fun d hd => ?_, ?_, fun _ => ?_, ?_, fun _ => ?_, (fun hh => by rw [hm] at hh; cases hh), fun d q hq => ?_, fun d e q r hq hr h1 h2 h3 => ?_, fun d q hq => ?_⟩
  · rcases mv_get hq with ⟨rfl, rfl⟩ | ⟨rfl, _, rfl⟩ | ⟨_, _, hq⟩
    · rcases h.dom d p hp with ⟨h1, _⟩ | ⟨h1, h2, h3⟩ | ⟨h1, _⟩
      · exact (h.tf h1 hf).elim
      · exact .inr (.inl ⟨(iF _).2 h1, by rw [i.there, i.left]; exact h2, h3⟩)
      · have := h.low (.inr hf); omega
    · rw [en]
      rcases i.at_ with ⟨e, _, e3⟩ | ⟨e, e2, e3, e4⟩
      · exact .inr (.inr ⟨bo.1 e, (i.iff _).2 (.inl ⟨rfl, e⟩), e3, e⟩)
      · refine .inl ⟨?_, by rw [i.here, e3]; omega, e⟩
        unfold inT; rw [i.here, e3]; have := h.y1; omega
    · rcases h.dom d q hq with ⟨h1, h2, h3⟩ | ⟨h1, h2, h3⟩ | ⟨h1, h2, h3, h4⟩
      · exact .inl ⟨iT _ h1, by rw [i.here]; omega, h3⟩
      · exact .inr (.inl ⟨(iF _).2 h1, by rw [i.there, i.left]; exact h2, h3⟩)
      · exact .inr (.inr ⟨h1, (i.iff _).2 (.inr h2), by rw [i.size d h2]; exact h3, h4⟩)
  · rcases (i.iff d).1 hd with ⟨rfl, _⟩ | hd
    · exact ⟨_, mv_b m p k nab⟩
    · obtain ⟨q, hq⟩ := h.all d hd
      obtain ⟨q', hq', _⟩ := same d q hq
      exact ⟨q', hq'⟩
  · obtain ⟨L, hL⟩ := h.tch
    rw [i.here]; have := tch hL; rw [i.here] at this; exact this
  · obtain ⟨h1, L, hL⟩ := h.sch hm
    exact ⟨by rw [i.here]; exact h1, tch hL⟩
  · obtain ⟨L, hL, hu⟩ := h.fch
    refine ⟨L, by rw [i.there, i.left]; exact ch hL, fun _ => ?_⟩
    have hu := hu hm
    have hx : a ∈ L := hL.mem h.rep hp hf.1 hf.2
    have ua : uw m a = p.n := by unfold uw; rw [hp]; exact if_pos hw
    have ua' : uw (mvM m a b p k) a = 0 := by unfold uw; rw [mv_a]; exact if_neg nab
    have := sum_one (f := uw m) (g := uw (mvM m a b p k)) (hL.nodup h.rep) hx (fun z hz e => by
      obtain ⟨_, q, hq, _⟩ := (hL.bound h.rep).2 z hz
      have n1 : z ≠ b := by rintro rfl; rw [nb] at hq; cases hq
      unfold uw; rw [mv_c m p k e n1])
    unfold unm at hu ⊢
    rw [i.left]; omega
  · have := h.room hm
    rw [i.left]
    refine ⟨?_, by omega⟩
    rcases i.at_ with ⟨_, e, _⟩ | ⟨_, _, e, _⟩ <;> omega
  · rcases mv_get hq with ⟨rfl, rfl⟩ | ⟨rfl, _, rfl⟩ | ⟨h1, h2, hq⟩
    · exact .inr ⟨(iF _).2 hf, fun hh => bf ((iF _).1 hh), .inl ⟨_, mv_b m p k nab, rfl, rfl⟩⟩
    · exact .inl rfl
    · rcases h.way d q hq with e | ⟨e1, e5, ⟨r, e2, e3, e4⟩ | e2⟩
      · exact .inl e
      · have n1 : q.way ≠ b := by intro e; rw [e, nb] at e2; cases e2
        have n2 : q.way ≠ a := by intro e; rw [e] at e5; exact e5 hf
        exact .inr ⟨(iF _).2 e1, fun hh => e5 ((iF _).1 hh), .inl ⟨r, by rw [mv_c m p k n2 n1]; exact e2, e3, e4⟩⟩
      · exact .inr ⟨(iF _).2 e1, fun hh => e5 ((iF _).1 hh), .inr e2⟩
  · have one : ∀ {d q}, mvM m a b p k d = some q → q.way = d → (d = b ∧ q.id = p.id) ∨ (d ≠ a ∧ m d = some q) := fun {d q} hq h1 => by
      rcases mv_get hq with ⟨rfl, rfl⟩ | ⟨rfl, _, rfl⟩ | ⟨h1, h2, hq⟩
      · exact (nab h1).elim
      · exact .inl ⟨rfl, rfl⟩
      · exact .inr ⟨h1, hq⟩
    rcases one hq h1 with ⟨rfl, i1⟩ | ⟨na, hq0⟩
    · rcases one hr h2 with ⟨rfl, _⟩ | ⟨na, hr0⟩
      · rfl
      · exact (na (h.uniq a e p r hp hr0 hw h2 (i1 ▸ h3)).symm).elim
    · rcases one hr h2 with ⟨rfl, i1⟩ | ⟨na', hr0⟩
      · exact (na (h.uniq a d p q hp hq0 hw h1 (i1 ▸ h3.symm)).symm).elim
      · exact h.uniq d e q r hq0 hr0 h1 h2 h3
  · rcases mv_get hq with ⟨rfl, rfl⟩ | ⟨rfl, _, rfl⟩ | ⟨h1, h2, hq⟩
    · exact h.idb d p hp
    · exact h.idb a p hp
    · exact h.idb d q hq
/-- One that is made. -/
theorem Geo.make {k : Hd} (h : Geo c ws y o mv scan cop m R N) (hg : k.good) (ko : k.old = false) (hr : y.used + (k.size + 2) ≤ c.n) (hm : mv = true → y.left - cop ≤ c.n - (y.used + (k.size + 2))) :
    Geo c (Ob.mkW ws (y.here + y.used) k) (y.take (k.size + 2)) o mv scan cop (upM m (y.here + y.used) ⟨k, y.here + y.used, List.replicate k.size.toNat 0, N + 1⟩) (fun i => R i ∨ i = N + 1) (N + 1) := by
  have kg := hg; unfold Hea.Hd.good at kg
  have y0 := h.y0; have y1 := h.y1; have y2 := h.y2; have n0 := h.cf.n0; have pw := h.cf.pw
  have hf : y.fits (k.size + 2) = true := by unfold Bp.Sp.fits Bp.Sp.room; rw [h.y3]; simp; omega
  obtain ⟨e1, e2, e3, e4, e5⟩ := take_y hf
  obtain ⟨b, hb⟩ : ∃ b, y.here + y.used = b := ⟨_, rfl⟩
  rw [hb]
  have i : Into c y o b (k.size + 2) false (y.take (k.size + 2)) o := ⟨e1, e2, e3, e5, h.si, rfl, rfl, rfl, (fun hh => by cases hh), fun z => ⟨fun hz => .inr hz, fun hz => by rcases hz with ⟨_, hz⟩ | hz; cases hz; exact hz⟩, fun z _ => rfl, fun z hz => hz, .inr ⟨rfl, hb.symm, e4, hr⟩⟩
  obtain ⟨ap, b0, b1, bo, bf⟩ := i.apart h (by omega)
  have nb := h.rep.free (by omega) ap
  obtain ⟨R, hl⟩ := h.rep.make hg b0 (by rw [h.wl]; exact b1) ap (N + 1)
  obtain ⟨P, hP⟩ : ∃ P : OR, (⟨k, b, List.replicate k.size.toNat 0, N + 1⟩ : OR) = P := ⟨_, rfl⟩
  have Pn : P.n = k.size + 2 := by rw [← hP]; rfl
  have Pw : P.way = b := by rw [← hP]
  have Pi : P.id = N + 1 := by rw [← hP]
  have Po : P.hd.old = false := by rw [← hP]; exact ko
  rw [hP] at R ⊢
  generalize y.take (k.size + 2) = y' at *
  have get : ∀ {d q}, upM m b P d = some q → (d = b ∧ q = P) ∨ (d ≠ b ∧ m d = some q) := fun {d q} hq => by
    by_cases e : d = b
    · subst e; rw [upM_self] at hq; cases hq; exact .inl ⟨rfl, rfl⟩
    · rw [upM_ne _ _ e] at hq; exact .inr ⟨e, hq⟩
  have same : ∀ {d q}, m d = some q → upM m b P d = some q := fun {d q} hq => by
    rw [upM_ne]; exact hq
    rintro rfl; rw [nb] at hq; cases hq
  have ch : ∀ {L s e}, Chain m L s e → Chain (upM m b P) L s e := fun hc => hc.mono fun x _ q hq => ⟨q, same hq, rfl⟩
  have tch : ∀ {L s}, Chain m L s (y.here + y.used) → Chain (upM m b P) (L ++ [b]) s (y'.here + y'.used) := fun {L s} hc => by
    have hc' := ch hc
    rw [hb] at hc'
    have := hc'.snoc (upM_self m b P)
    rw [Pn] at this
    rw [e1, e4, ← Int.add_assoc, hb]; exact this
  have iF : ∀ z, inF y' z ↔ inF y z := fun z => by unfold inF; rw [e2, e3]
  refine ⟨h.cf, R, by rw [hl]; exact h.wl, by rw [e1, e2]; exact y0, by omega, by rw [e3]; exact y2, by rw [e5]; exact h.y3, h.of_, h.ow, h.ol, h.si, fun d q hq => ?_, fun d hd => ?_, ?_, fun hm' => ?_, ?_, fun hm' => ?_, fun hh => by rw [e3]; exact h.nmv hh, fun d q hq => ?_, fun d e q r hq hr' h1 h2 h3 => ?_, fun d q hq => ?_⟩
  · rcases get hq with ⟨rfl, rfl⟩ | ⟨_, hq⟩
    · exact .inl ⟨by unfold inT; omega, by omega, Po⟩
    · rcases h.dom d q hq with ⟨h1, h2, h3⟩ | ⟨h1, h2, h3⟩ | ⟨h1, h2, h3, h4⟩
      · exact .inl ⟨by unfold inT at h1 ⊢; omega, by omega, h3⟩
      · exact .inr (.inl ⟨(iF _).2 h1, by rw [e2, e3]; exact h2, h3⟩)
      · exact .inr (.inr ⟨h1, h2, h3, h4⟩)
  · obtain ⟨q, hq⟩ := h.all d hd
    exact ⟨q, same hq⟩
  · obtain ⟨L, hL⟩ := h.tch
    refine ⟨L ++ [b], ?_⟩
    have := tch hL
    rw [e1] at this ⊢; exact this
  · obtain ⟨h1, L, hL⟩ := h.sch hm'
    exact ⟨by rw [e1]; exact h1, _, tch hL⟩
  · obtain ⟨L, hL, hu⟩ := h.fch
    refine ⟨L, by rw [e2, e3]; exact ch hL, fun hm' => ?_⟩
    rw [e3, hu hm']
    unfold unm
    refine sum_same fun z hz => ?_
    obtain ⟨_, q, hq, _⟩ := (hL.bound h.rep).2 z hz
    unfold uw; rw [hq, same hq]
  · rw [e3, e4]; exact ⟨hm hm', (h.room hm').2⟩
  · rcases get hq with ⟨rfl, rfl⟩ | ⟨_, hq⟩
    · exact .inl Pw
    · rcases h.way d q hq with e | ⟨e1, e5, ⟨r, e2, e3, e4⟩ | ⟨e2, e3⟩⟩
      · exact .inl e
      · exact .inr ⟨(iF _).2 e1, fun hh => e5 ((iF _).1 hh), .inl ⟨r, same e2, e3, e4⟩⟩
      · exact .inr ⟨(iF _).2 e1, fun hh => e5 ((iF _).1 hh), .inr ⟨e2, fun hh => hh.elim e3 fun hh => by have := h.idb d q hq; omega⟩⟩
  · rcases get hq with ⟨e1, e2⟩ | ⟨_, hq0⟩
    · rcases get hr' with ⟨e3, e4⟩ | ⟨_, hr0⟩
      · rw [e1, e3]
      · have := h.idb e r hr0; rw [e2] at h3; omega
    · rcases get hr' with ⟨e3, e4⟩ | ⟨_, hr0⟩
      · have := h.idb d q hq0; rw [e4] at h3; omega
      · exact h.uniq d e q r hq0 hr0 h1 h2 h3
  · rcases get hq with ⟨e1, e2⟩ | ⟨_, hq0⟩
    · rw [e2]; omega
    · have := h.idb d q hq0; omega
theorem flip_y {y : Bp.Sp} (h : y.left ≤ 0) : y.flip.here = y.there ∧ y.flip.there = y.here ∧ y.flip.used = y.left ∧ y.flip.left = y.used ∧ y.flip.m = y.m := by
  unfold Bp.Sp.flip
  rw [if_neg (by omega)]
  unfold Bp.Sp.here Bp.Sp.there Bp.Sp.left Bp.Sp.used
  cases y.now <;> simp
/-- The halves change their parts. -/
theorem Geo.flip (h : Geo c ws y o false scan cop m R N) : Geo c ws y.flip o true y.flip.here 0 m R N := by
  have hl := h.nmv rfl
  obtain ⟨e1, e2, e3, e4, e5⟩ := flip_y (y := y) (by omega)
  generalize y.flip = y' at *
  have y0 := h.y0; have y1 := h.y1; have y2 := h.y2
  have nF : ∀ z, ¬ inF y z := fun z hz => by unfold inF at hz; omega
  have iF : ∀ z, inF y' z ↔ inT y z := fun z => by unfold inF inT; rw [e2, e4]
  refine ⟨h.cf, h.rep, h.wl, by omega, by omega, by omega, by rw [e5]; exact h.y3, h.of_, h.ow, h.ol, h.si, fun d q hq => ?_, h.all, ⟨[], by rw [e3, hl]; show _ = _; omega⟩, fun _ => ⟨Int.le_refl _, [], by rw [e3, hl]; show _ = _; omega⟩, ?_, fun _ => by omega, (fun hh => by cases hh), fun d q hq => .inl (h.here hq (nF d)), h.uniq, h.idb⟩
  · rcases h.dom d q hq with ⟨h1, h2, h3⟩ | ⟨h1, h2, h3⟩ | ⟨h1, h2, h3, h4⟩
    · exact .inr (.inl ⟨(iF _).2 h1, by rw [e2, e4]; exact h2, h3⟩)
    · exact (nF _ h1).elim
    · exact .inr (.inr ⟨h1, h2, h3, h4⟩)
  · obtain ⟨L, hL⟩ := h.tch
    refine ⟨L, by rw [e2, e4]; exact hL, fun _ => ?_⟩
    rw [unm_all (fun x hx q hq => h.here hq (nF x)) hL, e4]
    omega
/-- What has not left the half that is emptied is gone. -/
def dropM (m : Mp) (y : Bp.Sp) : Mp := fun a => if y.isFrom a then none else m a
theorem drop_get {m : Mp} {y : Bp.Sp} {a : Int} {p : OR} : dropM m y a = some p ↔ m a = some p ∧ ¬ inF y a := by
  unfold dropM
  by_cases h : y.isFrom a = true
  · rw [if_pos h]; rw [isFrom_iff] at h; constructor
    · intro hh; cases hh
    · intro hh; exact (hh.2 h).elim
  · rw [if_neg h]; rw [isFrom_iff] at h; exact ⟨fun hh => ⟨hh, h⟩, fun hh => hh.1⟩
theorem drop_y (y : Bp.Sp) : y.drop.here = y.here ∧ y.drop.there = y.there ∧ y.drop.used = y.used ∧ y.drop.left = 0 ∧ y.drop.m = y.m := by
  unfold Bp.Sp.drop Bp.Sp.here Bp.Sp.there Bp.Sp.left Bp.Sp.used
  cases y.now <;> simp
theorem Geo.drop (h : Geo c ws y o mv scan cop m R N) : Geo c ws y.drop o false scan 0 (dropM m y) R' N := by
  obtain ⟨e1, e2, e3, e4, e5⟩ := drop_y y
  generalize y.drop = y' at *
  have y0 := h.y0; have y1 := h.y1; have y2 := h.y2
  have iT : ∀ z, inT y' z ↔ inT y z := fun z => by unfold inT; rw [e1, e3]
  have nF : ∀ z, ¬ inF y' z := fun z hz => by unfold inF at hz; omega
  refine ⟨h.cf, h.rep.sub (fun a p hp => (drop_get.1 hp).1), h.wl, by omega, by omega, by have := h.cf.n0; omega, by rw [e5]; exact h.y3, h.of_, h.ow, h.ol, h.si, fun d q hq => ?_, fun a ha => ?_, ?_, (fun hh => by cases hh), ⟨[], by rw [e4]; show _ = _; omega, (fun hh => by cases hh)⟩, (fun hh => by cases hh), fun _ => e4, fun d q hq => ?_, fun a b p q hp hq => h.uniq a b p q (drop_get.1 hp).1 (drop_get.1 hq).1, fun a p hp => h.idb a p (drop_get.1 hp).1⟩
  · obtain ⟨hq, hf⟩ := drop_get.1 hq
    rcases h.dom d q hq with ⟨h1, h2, h3⟩ | ⟨h1, h2, h3⟩ | ⟨h1, h2, h3, h4⟩
    · exact .inl ⟨(iT _).2 h1, by rw [e1, e3]; exact h2, h3⟩
    · exact (hf h1).elim
    · exact .inr (.inr ⟨h1, h2, h3, h4⟩)
  · obtain ⟨p, hp⟩ := h.all a ha
    refine ⟨p, drop_get.2 ⟨hp, fun hf => ?_⟩⟩
    have := (h.hasm ha).1
    have := h.low (.inr hf)
    omega
  · obtain ⟨L, hL⟩ := h.tch
    rw [e1, e3]
    refine ⟨L, hL.mono fun x hx p hp => ⟨p, drop_get.2 ⟨hp, fun hf => ?_⟩, rfl⟩⟩
    obtain ⟨h1, q, hq, h2⟩ := (hL.bound h.rep).2 x hx
    have := (h.rep.at_ x q hq).n2
    exact h.tf (a := x) ⟨h1, by omega⟩ hf
  · obtain ⟨hq, hf⟩ := drop_get.1 hq
    exact .inl (h.here hq hf)
/-- One that is given back. -/
def delM (m : Mp) (a : Int) : Mp := fun b => if b = a then none else m b
theorem del_get {m : Mp} {a b : Int} {p : OR} : delM m a b = some p ↔ m b = some p ∧ b ≠ a := by
  unfold delM
  by_cases h : b = a
  · rw [if_pos h]; constructor
    · intro hh; cases hh
    · intro hh; exact (hh.2 h).elim
  · rw [if_neg h]; exact ⟨fun hh => ⟨hh, h⟩, fun hh => hh.1⟩
theorem Geo.give (h : Geo c ws y o mv scan cop m R N) {a : Int} (ha : o.has a = true) (nR : ∀ p, m a = some p → ¬ R p.id) : Geo c ws y (o.give a) mv scan cop (delM m a) R N := by
  have g := Ma.give_has h.si ha
  have am := (h.hasm ha).1
  have lo : ∀ z, inT y z ∨ inF y z → z ≠ a := fun z hz => by have := h.low hz; omega
  have chT : ∀ {L s}, y.here ≤ s → Chain m L s (y.here + y.used) → Chain (delM m a) L s (y.here + y.used) := fun hs hc => hc.mono fun x hx p hp => by
    refine ⟨p, del_get.2 ⟨hp, ?_⟩, rfl⟩
    obtain ⟨h1, q, hq, h2⟩ := (hc.bound h.rep).2 x hx
    have := (h.rep.at_ x q hq).n2
    exact lo x (.inl ⟨by omega, by omega⟩)
  refine ⟨h.cf, h.rep.sub (fun b p hp => (del_get.1 hp).1), h.wl, h.y0, h.y1, h.y2, h.y3, g.f.trans h.of_, g.w.trans h.ow, by rw [g.len]; exact h.ol, g.si, fun d q hq => ?_, fun b hb => ?_, ?_, fun hm => ?_, ?_, h.room, h.nmv, fun d q hq => ?_, fun d b p q hp hq => h.uniq d b p q (del_get.1 hp).1 (del_get.1 hq).1, fun d p hp => h.idb d p (del_get.1 hp).1⟩
  · obtain ⟨hq, hn⟩ := del_get.1 hq
    rcases h.dom d q hq with h1 | h1 | ⟨h1, h2, h3, h4⟩
    · exact .inl h1
    · exact .inr (.inl h1)
    · have := (g.iff d).2 ⟨hn, h2⟩
      exact .inr (.inr ⟨h1, this, by rw [g.size d this]; exact h3, h4⟩)
  · obtain ⟨h1, h2⟩ := (g.iff b).1 hb
    obtain ⟨p, hp⟩ := h.all b h2
    exact ⟨p, del_get.2 ⟨hp, h1⟩⟩
  · obtain ⟨L, hL⟩ := h.tch
    exact ⟨L, chT (Int.le_refl _) hL⟩
  · obtain ⟨h1, L, hL⟩ := h.sch hm
    exact ⟨h1, L, chT h1 hL⟩
  · obtain ⟨L, hL, hu⟩ := h.fch
    have hx : ∀ x ∈ L, x ≠ a := fun x hx => by
      obtain ⟨h1, q, hq, h2⟩ := (hL.bound h.rep).2 x hx
      have := (h.rep.at_ x q hq).n2
      exact lo x (.inr ⟨h1, by omega⟩)
    refine ⟨L, hL.mono fun x h1 p hp => ⟨p, del_get.2 ⟨hp, hx x h1⟩, rfl⟩, fun hm => ?_⟩
    rw [hu hm]
    unfold unm
    refine sum_same fun z hz => ?_
    unfold uw delM
    rw [if_neg (hx z hz)]
  · obtain ⟨hq, hn⟩ := del_get.1 hq
    rcases h.way d q hq with e | ⟨e1, e5, ⟨r, e2, e3, e4⟩ | e2⟩
    · exact .inl e
    · by_cases e : q.way = a
      · exact .inr ⟨e1, e5, .inr ⟨by omega, by rw [← e4]; exact nR r (e ▸ e2)⟩⟩
      · exact .inr ⟨e1, e5, .inl ⟨r, del_get.2 ⟨e2, e⟩, e3, e4⟩⟩
    · exact .inr ⟨e1, e5, .inr e2⟩
theorem Geo.same (h : Geo c ws y o mv scan cop m R N) {o' : Ma.MS} (s : Ma.SameHas o o') : Geo c ws y o' mv scan cop m R N := by
  refine ⟨h.cf, h.rep, h.wl, h.y0, h.y1, h.y2, h.y3, s.f.trans h.of_, s.w.trans h.ow, by rw [s.len]; exact h.ol, s.si, fun d q hq => ?_, fun b hb => ?_, h.tch, h.sch, h.fch, h.room, h.nmv, h.way, h.uniq, h.idb⟩
  · have := h.dom d q hq
    rw [s.iff, s.size]; exact this
  · rw [s.iff] at hb; exact h.all b hb
/-- Fewer are held. -/
theorem Geo.less (h : Geo c ws y o mv scan cop m R N) (hR : ∀ i, R' i → R i) : Geo c ws y o mv scan cop m R' N :=
  ⟨h.cf, h.rep, h.wl, h.y0, h.y1, h.y2, h.y3, h.of_, h.ow, h.ol, h.si, h.dom, h.all, h.tch, h.sch, h.fch, h.room, h.nmv, fun a p hp => (h.way a p hp).imp_right fun ⟨e1, e2, e3⟩ => ⟨e1, e2, e3.imp_right fun ⟨e4, e5⟩ => ⟨e4, fun hh => e5 (hR _ hh)⟩⟩, h.uniq, h.idb⟩
end
end Go.Proofs.YtihmkkjmnbehbaaGreat.Wh
/- What the set of noted places holds now, and what is to be looked at. No condition. -/
set_option linter.unusedVariables false
set_option linter.unusedSimpArgs false
namespace Go.Proofs.YtihmkkjmnbehbaaGreat.Wh
open Go.RowKit Go.Proofs.YtihmkkjmnbehbaaGreat.W
/-- A place's card. -/
def cardI (r : Re.RS) (a : Int) : Nat := ((a - r.f) / r.c).toNat
def inNow (r : Re.RS) (a : Int) : Prop := a ∈ r.nl ∨ r.nm[cardI r a]? = some true
def inThen (r : Re.RS) (a : Int) : Prop := a ∈ r.tl ∨ r.tm[cardI r a]? = some true
structure ROk (c : CF) (r : Re.RS) : Prop where
  f : r.f = c.mat
  w : r.w = c.p * c.w
  cc : r.c = c.c
  mo : r.mo = c.b
  nm : (r.nm.length : Int) = Cd.Cd.num (c.p * c.w) c.c
  tm : (r.tm.length : Int) = Cd.Cd.num (c.p * c.w) c.c
theorem clamp1_id {c : CF} (h : CFok c) : Cd.clamp1 c.c = c.c := by
  have := h.c0; have := h.c1; have := h.w1
  unfold Cd.clamp1; rw [if_neg (by omega), if_neg (by omega)]
section
variable {c : CF} {r : Re.RS}
theorem ROk.lt (h : ROk c r) (hc : CFok c) {a : Int} (h0 : c.mat ≤ a) (h1 : a < c.words) : cardI r a < r.nm.length ∧ cardI r a < r.tm.length := by
  have := h.nm; have := h.tm
  unfold CF.words at h1
  have := Cd.num_lt (w := c.p * c.w) (c := c.c) (x := a - c.mat) hc.c0 (by omega) (by omega)
  unfold cardI; rw [h.f, h.cc]; omega
theorem ROk.add (h : ROk c r) (a : Int) : ROk c (r.add a) ∧ (r.add a).tl = r.tl ∧ (r.add a).tm = r.tm := by
  unfold Re.RS.add
  split
  · split
    · exact ⟨⟨h.f, h.w, h.cc, h.mo, h.nm, h.tm⟩, rfl, rfl⟩
    · exact ⟨⟨h.f, h.w, h.cc, h.mo, by simpa using h.nm, h.tm⟩, rfl, rfl⟩
  · exact ⟨h, rfl, rfl⟩
theorem then_add (h : ROk c r) (a x : Int) : inThen (r.add a) x ↔ inThen r x := by
  obtain ⟨k, e1, e2⟩ := h.add a
  unfold inThen cardI
  rw [e1, e2, k.f, k.cc, h.f, h.cc]
theorem now_add (h : ROk c r) (hc : CFok c) {a : Int} (h0 : c.mat ≤ a) (h1 : a < c.words) : inNow (r.add a) a ∧ ∀ x, inNow r x → inNow (r.add a) x := by
  have hi : r.inn a = true := by
    unfold Re.RS.inn CF.words at *
    rw [h.f, h.w]; simp; omega
  have hl := h.lt hc h0 h1
  unfold Re.RS.add
  rw [if_pos hi]
  split
  · exact ⟨.inl (by simp), fun x hx => hx.elim (fun hx => .inl (by simp [hx])) .inr⟩
  · have e : ((Re.ncd r).of_ a).toNat = cardI r a := by
      unfold Cd.Cd.of_ cardI Re.ncd
      simp only []
      unfold CF.words at h1
      rw [if_pos (by rw [h.f, h.w]; omega), h.cc, clamp1_id hc]
    rw [e]
    refine ⟨.inr ?_, fun x hx => hx.elim .inl fun hx => .inr ?_⟩
    · show (r.nm.set (cardI r a) true)[cardI r a]? = some true
      rw [List.getElem?_set_self hl.1]
    · show (r.nm.set (cardI r a) true)[cardI r x]? = some true
      rw [List.getElem?_set]
      split
      · rw [if_pos hl.1]
      · exact hx
theorem left_0 (h : r.left ≤ 0) : r.tl = [] ∧ ∀ i : Nat, r.tm[i]? ≠ some true := by
  unfold Re.RS.left at h
  have h1 : r.tl.length = 0 := by omega
  have h2 : r.tm.count true = 0 := by omega
  refine ⟨List.length_eq_zero_iff.1 h1, fun i hi => ?_⟩
  have := List.mem_of_getElem? hi
  rw [List.count_eq_zero] at h2
  exact h2 this
theorem then_0 (h : r.left ≤ 0) (x : Int) : ¬ inThen r x := by
  obtain ⟨h1, h2⟩ := left_0 h
  rintro (hx | hx)
  · rw [h1] at hx; cases hx
  · exact h2 _ hx
theorem flip_r (h : ROk c r) (hc : CFok c) (hl : r.left ≤ 0) : ROk c r.flip ∧ (∀ x, inThen r.flip x ↔ inNow r x) ∧ ∀ x, ¬ inNow r.flip x := by
  unfold Re.RS.flip
  rw [if_neg (by omega)]
  have pw := hc.pw
  have nb := Cd.num_b (w := c.p * c.w) (c := c.c) pw.1 hc.c0
  refine ⟨⟨h.f, h.w, h.cc, h.mo, ?_, h.nm⟩, fun x => Iff.rfl, fun x hx => ?_⟩
  · simp only [Re.Cd.none_, List.length_replicate, h.w, h.cc, clamp1_id hc]; omega
  · rcases hx with hx | hx
    · cases hx
    · simp only [Re.Cd.none_] at hx
      have := List.mem_of_getElem? hx
      simp at this
theorem card_in (hc : CFok c) (h : ROk c r) {a : Int} (h0 : c.mat ≤ a) (h1 : a < c.words) {n : Nat} (hn : n < r.tm.length) (e : cardI r a = n) : ((Re.tcd r).part n).1 ≤ a ∧ a < ((Re.tcd r).part n).2 := by
  unfold Cd.Cd.part Re.tcd
  simp only [h.f, h.w, h.cc, clamp1_id hc]
  rw [if_pos (by omega)]
  unfold cardI at e
  rw [h.f, h.cc] at e
  unfold CF.words at h1
  have c0 := hc.c0
  have d0 := Int.ediv_nonneg (by omega : 0 ≤ a - c.mat) (by omega : 0 ≤ c.c)
  have e1 := Int.mul_ediv_add_emod (a - c.mat) c.c
  have e2 := Int.emod_nonneg (a - c.mat) (by omega : c.c ≠ 0)
  have e3 := Int.emod_lt_of_pos (a - c.mat) (by omega : 0 < c.c)
  have e4 : (a - c.mat) / c.c = n := by omega
  rw [e4] at e1
  have e5 : ((n : Int) + 1) * c.c = n * c.c + c.c := by rw [Int.add_mul, Int.one_mul]
  rw [Int.mul_comm c.c n] at e1
  simp only []
  rw [e5]
  split <;> omega
/-- The next place or part. -/
theorem next_r (h : ROk c r) (hc : CFok c) :
    ROk c r.next ∧ (∀ x, inNow r.next x ↔ inNow r x) ∧
    ((r.said.2.2 = false ∧ r.next = r ∧ r.left ≤ 0) ∨
     (r.said.2.2 = true ∧ r.next.left + 1 = r.left ∧ ((r.said.2.1 = false ∧ ∀ x, inThen r x → x = r.said.1.1 ∨ inThen r.next x) ∨
      (r.said.2.1 = true ∧ ∀ x, c.mat ≤ x → x < c.words → inThen r x → (r.said.1.1 ≤ x ∧ x < r.said.1.2) ∨ inThen r.next x)))) := by
  unfold Re.RS.next Re.RS.said
  cases ht : r.tl with
  | cons a L =>
    refine ⟨⟨h.f, h.w, h.cc, h.mo, h.nm, h.tm⟩, fun x => Iff.rfl, .inr ⟨rfl, ?_, .inl ⟨rfl, fun x hx => ?_⟩⟩⟩
    · unfold Re.RS.left; rw [ht]; simp; omega
    · rcases hx with hx | hx
      · rw [ht] at hx
        rcases List.mem_cons.1 hx with e | hx
        · exact .inl e
        · exact .inr (.inl hx)
      · exact .inr (.inr hx)
  | nil =>
    have hs := Cd.fstI_spec r.tm
    simp only []
    cases hf : Cd.fstI r.tm with
    | none =>
      rw [hf] at hs
      refine ⟨h, fun x => Iff.rfl, .inl ⟨rfl, rfl, ?_⟩⟩
      unfold Re.RS.left
      rw [ht]
      have : r.tm.count true = 0 := by
        rw [List.count_eq_zero]
        intro hm
        obtain ⟨i, hi, e⟩ := List.getElem_of_mem hm
        have := hs i (Nat.zero_le _)
        rw [List.getElem?_eq_getElem hi, e] at this
        cases this
      simp [this]
    | some n =>
      rw [hf] at hs
      obtain ⟨_, hn, hv, _⟩ := hs
      refine ⟨⟨h.f, h.w, h.cc, h.mo, h.nm, by simpa using h.tm⟩, fun x => Iff.rfl, .inr ⟨rfl, ?_, .inr ⟨rfl, fun x h0 h1 hx => ?_⟩⟩⟩
      · have hn' : r.tm[n] = true := by
          rw [List.getElem?_eq_getElem hn] at hv; simpa using hv
        have := List.count_set (b := true) (a := false) hn
        have hp : 0 < r.tm.count true := List.count_pos_iff.2 (hn' ▸ List.getElem_mem hn)
        unfold Re.RS.left
        simp only [ht]
        rw [this]
        simp [hn']
        omega
      · rcases hx with hx | hx
        · rw [ht] at hx; cases hx
        · by_cases e : cardI r x = n
          · exact .inl (card_in hc h h0 h1 hn e)
          · refine .inr (.inr ?_)
            show (r.tm.set n false)[cardI r x]? = some true
            rw [List.getElem?_set_ne (Ne.symm e)]; exact hx
end
end Go.Proofs.YtihmkkjmnbehbaaGreat.Wh
