/- Texts of the whole heap, joined: WqB. No condition beside those that each lemma names. -/
import Derived.Test.YtihmkkjmnbehbaaGreatMg23
/- Where the heap's objects lie: what holds of it at any time, and of each bit of work. No condition. -/
set_option linter.unusedVariables false
set_option linter.unusedSimpArgs false
namespace Go.Proofs.YtihmkkjmnbehbaaGreat.Wh
open Go.RowKit Go.Proofs.YtihmkkjmnbehbaaGreat.W
/-- A way of making a heap that may be. -/
structure CFok (c : CF) : Prop where
  h0 : 1 ≤ c.h
  h1 : c.h ≤ 64
  n0 : 8 ≤ c.n
  n1 : c.n ≤ 4096
  p0 : 0 ≤ c.p
  p1 : c.p ≤ 64
  w0 : 16 ≤ c.w
  w1 : c.w ≤ 256
  c0 : 1 ≤ c.c
  c1 : c.c ≤ c.w
  b0 : 0 ≤ c.b
  b1 : c.b ≤ 256
  s0 : 1 ≤ c.s
  s1 : c.s ≤ 256
  t0 : 1 ≤ c.t
  t1 : c.t ≤ 7
  l0 : 0 ≤ c.l
  l1 : c.l ≤ 64
  ln : c.l + 2 ≤ c.n
  mi0 : 0 ≤ c.mi
  mi1 : c.mi ≤ 64
  ma0 : 0 ≤ c.ma
  ma1 : c.ma ≤ 64
theorem CFok.pw {c : CF} (h : CFok c) : 0 ≤ c.p * c.w ∧ c.p * c.w ≤ 16384 := by
  have h1 := h.p0; have h2 := h.p1; have h3 := h.w0; have h4 := h.w1
  refine ⟨Int.mul_nonneg h1 (by omega), ?_⟩
  have a := Int.mul_le_mul_of_nonneg_right h2 (by omega : 0 ≤ c.w)
  have b := Int.mul_le_mul_of_nonneg_left h4 (by omega : (0 : Int) ≤ 64)
  omega
def inT (y : Bp.Sp) (a : Int) : Prop := y.here ≤ a ∧ a < y.here + y.used
def inF (y : Bp.Sp) (a : Int) : Prop := y.there ≤ a ∧ a < y.there + y.left
theorem isIn_iff {y : Bp.Sp} {a : Int} : y.isIn a = true ↔ inT y a := by unfold Bp.Sp.isIn inT; simp; omega
theorem isFrom_iff {y : Bp.Sp} {a : Int} : y.isFrom a = true ↔ inF y a := by unfold Bp.Sp.isFrom inF; simp; omega
theorem isFrom_not {y : Bp.Sp} {a : Int} : y.isFrom a = false ↔ ¬ inF y a := by rw [← isFrom_iff]; simp
/-- Objects one behind the other, from a place to a place. -/
def Chain (m : Mp) : List Int → Int → Int → Prop
  | [], a, e => a = e
  | x :: r, a, e => x = a ∧ ∃ o, m a = some o ∧ Chain m r (a + o.n) e
/-- Words of what has not moved. -/
def uw (m : Mp) (x : Int) : Int := match m x with | some o => if o.way = x then o.n else 0 | none => 0
def unm (m : Mp) (L : List Int) : Int := (L.map (uw m)).sum
theorem Chain.mono {m m' : Mp} {L : List Int} {e : Int} : ∀ {a : Int}, Chain m L a e → (∀ x ∈ L, ∀ o, m x = some o → ∃ o', m' x = some o' ∧ o'.n = o.n) → Chain m' L a e := by
  induction L with
  | nil => intro a h _; exact h
  | cons x r ih =>
    rintro a ⟨rfl, o, ho, hc⟩ hm
    obtain ⟨o', ho', e'⟩ := hm x List.mem_cons_self o ho
    exact ⟨rfl, o', ho', by rw [e']; exact ih hc (fun z hz => hm z (List.mem_cons_of_mem _ hz))⟩
theorem Chain.snoc {m : Mp} {L : List Int} {e : Int} {o : OR} (he : m e = some o) : ∀ {a : Int}, Chain m L a e → Chain m (L ++ [e]) a (e + o.n) := by
  induction L with
  | nil => intro a h; cases h; exact ⟨rfl, o, he, rfl⟩
  | cons x r ih =>
    rintro a ⟨rfl, p, hp, hc⟩
    exact ⟨rfl, p, hp, ih hc⟩
theorem Chain.bound {ws : List Int} {m : Mp} (h : Rep ws m) {L : List Int} {e : Int} : ∀ {a : Int}, Chain m L a e → a ≤ e ∧ ∀ x ∈ L, a ≤ x ∧ ∃ o, m x = some o ∧ x + o.n ≤ e := by
  induction L with
  | nil => intro a h; cases h; exact ⟨Int.le_refl _, fun x hx => by cases hx⟩
  | cons x r ih =>
    rintro a ⟨rfl, o, ho, hc⟩
    have n2 := (h.at_ x o ho).n2
    obtain ⟨h1, h2⟩ := ih hc
    refine ⟨by omega, fun z hz => ?_⟩
    rcases List.mem_cons.1 hz with rfl | hz
    · exact ⟨Int.le_refl _, o, ho, h1⟩
    · obtain ⟨h3, p, h4, h5⟩ := h2 z hz
      exact ⟨by omega, p, h4, h5⟩
theorem Chain.nodup {ws : List Int} {m : Mp} (h : Rep ws m) {L : List Int} {e : Int} : ∀ {a : Int}, Chain m L a e → L.Nodup := by
  induction L with
  | nil => intro a h; exact List.nodup_nil
  | cons x r ih =>
    rintro a ⟨rfl, o, ho, hc⟩
    have n2 := (h.at_ x o ho).n2
    refine List.nodup_cons.2 ⟨fun hx => ?_, ih hc⟩
    have := ((hc.bound h).2 x hx).1
    omega
theorem Chain.mem {ws : List Int} {m : Mp} (h : Rep ws m) {b : Int} {p : OR} (hb : m b = some p) {L : List Int} {e : Int} : ∀ {a : Int}, Chain m L a e → a ≤ b → b < e → b ∈ L := by
  induction L with
  | nil => intro a h h1 h2; cases h; omega
  | cons x r ih =>
    rintro a ⟨rfl, o, ho, hc⟩ h1 h2
    by_cases e : b = x
    · subst e; exact List.mem_cons_self
    · have := h.apart x b o p ho hb (by omega)
      exact List.mem_cons_of_mem _ (ih hc (by omega) h2)
theorem sum_one {f g : Int → Int} {x : Int} {L : List Int} (hn : L.Nodup) (hx : x ∈ L) (hf : ∀ z ∈ L, z ≠ x → f z = g z) : (L.map f).sum = (L.map g).sum + (f x - g x) := by
  induction L with
  | nil => cases hx
  | cons z r ih =>
    simp only [List.map_cons, List.sum_cons]
    rw [List.nodup_cons] at hn
    by_cases e : z = x
    · subst e
      have : (r.map f) = (r.map g) := List.map_congr_left fun w hw => hf w (List.mem_cons_of_mem _ hw) (fun e => hn.1 (e ▸ hw))
      rw [this]; omega
    · have hx' : x ∈ r := by rcases List.mem_cons.1 hx with h | h; exact (e h.symm).elim; exact h
      rw [ih hn.2 hx' (fun w hw => hf w (List.mem_cons_of_mem _ hw)), hf z List.mem_cons_self e]; omega
theorem sum_same {f g : Int → Int} {L : List Int} (hf : ∀ z ∈ L, f z = g z) : (L.map f).sum = (L.map g).sum := by rw [List.map_congr_left hf]
theorem uw_nn {ws : List Int} {m : Mp} (h : Rep ws m) (x : Int) : 0 ≤ uw m x := by
  unfold uw
  cases hx : m x with
  | none => exact Int.le_refl _
  | some o => have := (h.at_ x o hx).n2; simp only []; split <;> omega
theorem sum_nn {f : Int → Int} {L : List Int} (h : ∀ z, 0 ≤ f z) : 0 ≤ (L.map f).sum := by
  induction L with
  | nil => exact Int.le_refl _
  | cons z r ih => simp only [List.map_cons, List.sum_cons]; have := h z; omega
theorem sum_ge {f : Int → Int} {L : List Int} (h : ∀ z, 0 ≤ f z) {x : Int} (hx : x ∈ L) : f x ≤ (L.map f).sum := by
  induction L with
  | nil => cases hx
  | cons z r ih =>
    simp only [List.map_cons, List.sum_cons]
    have := h z
    rcases List.mem_cons.1 hx with rfl | hx
    · have := sum_nn (L := r) h; omega
    · have := ih hx; omega
theorem unm_all {m : Mp} {L : List Int} {e : Int} (hw : ∀ x ∈ L, ∀ o, m x = some o → o.way = x) : ∀ {a : Int}, Chain m L a e → unm m L = e - a := by
  induction L with
  | nil => intro a h; cases h; unfold unm; simp
  | cons x r ih =>
    rintro a ⟨rfl, o, ho, hc⟩
    have := ih (fun z hz => hw z (List.mem_cons_of_mem _ hz)) hc
    unfold unm at this ⊢
    simp only [List.map_cons, List.sum_cons]
    rw [this]
    have hw := hw x List.mem_cons_self o ho
    have : uw m x = o.n := by unfold uw; rw [ho]; exact if_pos hw
    omega
/-- Where objects lie. -/
structure Geo (c : CF) (ws : List Int) (y : Bp.Sp) (o : Ma.MS) (mv : Bool) (scan cop : Int) (m : Mp) (R : Nat → Prop) (N : Nat) : Prop where
  cf : CFok c
  rep : Rep ws m
  wl : (ws.length : Int) = c.words
  y0 : (y.here = 1 ∧ y.there = 1 + c.n) ∨ (y.here = 1 + c.n ∧ y.there = 1)
  y1 : 0 ≤ y.used ∧ y.used ≤ c.n
  y2 : 0 ≤ y.left ∧ y.left ≤ c.n
  y3 : y.m = c.n
  of_ : o.f = c.mat
  ow : o.w = c.w
  ol : (o.l.length : Int) = c.p
  si : Ma.SI o
  dom : ∀ a p, m a = some p → (inT y a ∧ a + p.n ≤ y.here + y.used ∧ p.hd.old = false) ∨ (inF y a ∧ a + p.n ≤ y.there + y.left ∧ p.hd.old = false) ∨ (c.mat ≤ a ∧ o.has a = true ∧ p.n ≤ o.size a ∧ p.hd.old = true)
  all : ∀ a, o.has a = true → ∃ p, m a = some p
  tch : ∃ L, Chain m L y.here (y.here + y.used)
  sch : mv = true → y.here ≤ scan ∧ ∃ L, Chain m L scan (y.here + y.used)
  fch : ∃ L, Chain m L y.there (y.there + y.left) ∧ (mv = true → y.left - cop = unm m L)
  room : mv = true → y.left - cop ≤ c.n - y.used ∧ 0 ≤ cop
  nmv : mv = false → y.left = 0
  way : ∀ a p, m a = some p → p.way = a ∨ (inF y a ∧ ¬ inF y p.way ∧ ((∃ q, m p.way = some q ∧ q.way = p.way ∧ q.id = p.id) ∨ (c.mat ≤ p.way ∧ ¬ R p.id)))
  uniq : ∀ a b p q, m a = some p → m b = some q → p.way = a → q.way = b → p.id = q.id → a = b
  idb : ∀ a p, m a = some p → 1 ≤ p.id ∧ p.id ≤ N
section
variable {c : CF} {ws : List Int} {y : Bp.Sp} {o : Ma.MS} {mv : Bool} {scan cop : Int} {m : Mp} {R : Nat → Prop} {N : Nat}
/-- What is young lies below the pages. -/
theorem Geo.low (h : Geo c ws y o mv scan cop m R N) {a : Int} (ha : inT y a ∨ inF y a) : 1 ≤ a ∧ a < c.mat := by
  have := h.y0; have := h.y1; have := h.y2
  unfold inT inF at ha; unfold CF.mat; omega
theorem Geo.tf (h : Geo c ws y o mv scan cop m R N) {a : Int} (h1 : inT y a) (h2 : inF y a) : False := by
  have := h.y0; have := h.y1; have := h.y2
  unfold inT at h1; unfold inF at h2; omega
theorem Geo.words (h : Geo c ws y o mv scan cop m R N) : c.words ≤ 1048576 ∧ c.mat ≤ c.words ∧ 17 ≤ c.mat := by
  have := h.cf.pw; have := h.cf.n0; have := h.cf.n1
  unfold CF.words CF.mat; omega
theorem Geo.old (h : Geo c ws y o mv scan cop m R N) {a : Int} {p : OR} (hp : m a = some p) : p.hd.old = true ↔ c.mat ≤ a := by
  rcases h.dom a p hp with ⟨h1, _, h2⟩ | ⟨h1, _, h2⟩ | ⟨h1, _, _, h2⟩
  · have := h.low (.inl h1); rw [h2]; constructor
    · intro h; cases h
    · intro; omega
  · have := h.low (.inr h1); rw [h2]; constructor
    · intro h; cases h
    · intro; omega
  · rw [h2]; exact ⟨fun _ => h1, fun _ => rfl⟩
theorem Geo.cls (h : Geo c ws y o mv scan cop m R N) {a : Int} {p : OR} (hp : m a = some p) : inT y a ∨ inF y a ∨ (c.mat ≤ a ∧ o.has a = true) := by
  rcases h.dom a p hp with ⟨h1, _⟩ | ⟨h1, _⟩ | ⟨h1, h2, _⟩
  · exact .inl h1
  · exact .inr (.inl h1)
  · exact .inr (.inr ⟨h1, h2⟩)
theorem Geo.hasm (h : Geo c ws y o mv scan cop m R N) {a : Int} (ha : o.has a = true) : c.mat ≤ a ∧ a + o.size a ≤ c.words := by
  have := Ma.has_in h.si ha
  rw [h.of_, h.ow, h.ol] at this
  exact ⟨this.1, this.2.1⟩
/-- What is not in the half that is emptied is there itself. -/
theorem Geo.here (h : Geo c ws y o mv scan cop m R N) {a : Int} {p : OR} (hp : m a = some p) (hf : ¬ inF y a) : p.way = a := by
  rcases h.way a p hp with e | ⟨hf', _⟩
  · exact e
  · exact (hf hf').elim
/-- Where something is now. -/
theorem Geo.now (h : Geo c ws y o mv scan cop m R N) {a : Int} {p : OR} (hp : m a = some p) (hR : R p.id) : ∃ q, m p.way = some q ∧ q.way = p.way ∧ q.id = p.id := by
  rcases h.way a p hp with e | ⟨_, _, ⟨q, h1, h2, h3⟩ | ⟨_, h1⟩⟩
  · exact ⟨p, by rw [e]; exact hp, rfl, rfl⟩
  · exact ⟨q, h1, h2, h3⟩
  · exact (h1 hR).elim
theorem Geo.nz (h : Geo c ws y o mv scan cop m R N) : m 0 = none := by
  cases h0 : m 0 with
  | none => rfl
  | some p => have := (h.rep.at_ 0 p h0).a0; omega
theorem Geo.rng (h : Geo c ws y o mv scan cop m R N) {a : Int} {p : OR} (hp : m a = some p) : 1 ≤ a ∧ a + p.n ≤ c.words ∧ 2 ≤ p.n ∧ 1 ≤ p.way ∧ p.way ≤ c.words := by
  have H := h.rep.at_ a p hp
  have := H.a0; have := H.fit; have := H.n2; have := H.w0; have := H.w1; have := h.wl
  omega
/-- As before, but for what does not matter here. -/
structure Like (m m' : Mp) : Prop where
  fwd : ∀ a p, m a = some p → ∃ q, m' a = some q ∧ q.hd.size = p.hd.size ∧ q.hd.ptrs = p.hd.ptrs ∧ q.hd.old = p.hd.old ∧ q.way = p.way ∧ q.id = p.id
  back : ∀ a q, m' a = some q → ∃ p, m a = some p ∧ q.hd.size = p.hd.size ∧ q.hd.ptrs = p.hd.ptrs ∧ q.hd.old = p.hd.old ∧ q.way = p.way ∧ q.id = p.id
theorem Like.up {a : Int} {p q : OR} (ha : m a = some p) (h1 : q.hd.size = p.hd.size) (h2 : q.hd.ptrs = p.hd.ptrs) (h3 : q.hd.old = p.hd.old) (h4 : q.way = p.way) (h5 : q.id = p.id) : Like m (upM m a q) := by
  refine ⟨fun b r hb => ?_, fun b r hb => ?_⟩
  · by_cases e : b = a
    · subst e; rw [ha] at hb; cases hb; exact ⟨q, upM_self _ _ _, h1, h2, h3, h4, h5⟩
    · exact ⟨r, by rw [upM_ne _ _ e]; exact hb, rfl, rfl, rfl, rfl, rfl⟩
  · by_cases e : b = a
    · subst e; rw [upM_self] at hb; cases hb; exact ⟨p, ha, h1, h2, h3, h4, h5⟩
    · rw [upM_ne _ _ e] at hb; exact ⟨r, hb, rfl, rfl, rfl, rfl, rfl⟩
theorem Geo.like (h : Geo c ws y o mv scan cop m R N) {m' : Mp} {ws' : List Int} (hl : Like m m') (hr : Rep ws' m') (hw : ws'.length = ws.length) : Geo c ws' y o mv scan cop m' R N := by
  have ch : ∀ {L a e}, Chain m L a e → Chain m' L a e := fun hc => hc.mono fun x _ p hp => by
    obtain ⟨q, hq, e1, _⟩ := hl.fwd x p hp
    exact ⟨q, hq, by unfold OR.n; rw [e1]⟩
  have um : ∀ L, unm m' L = unm m L := fun L => by
    unfold unm
    refine sum_same fun z hz => ?_
    unfold uw
    cases hz : m z with
    | some p =>
      obtain ⟨q, hq, e1, _, _, e4, _⟩ := hl.fwd z p hz
      rw [hq]; simp only [e4]; unfold OR.n; rw [e1]
    | none =>
      cases hz' : m' z with
      | none => rfl
      | some q => obtain ⟨p, hp, _⟩ := hl.back z q hz'; rw [hz] at hp; cases hp
  refine ⟨h.cf, hr, by rw [hw]; exact h.wl, h.y0, h.y1, h.y2, h.y3, h.of_, h.ow, h.ol, h.si, fun a q hq => ?_, fun a ha => ?_, ?_, fun hm => ?_, ?_, h.room, h.nmv, fun a q hq => ?_, fun a b q r hq hr' h1 h2 h3 => ?_, fun a q hq => ?_⟩
  · obtain ⟨p, hp, e1, _, e3, _⟩ := hl.back a q hq
    have := h.dom a p hp
    unfold OR.n at this ⊢
    rw [e1, e3]; exact this
  · obtain ⟨p, hp⟩ := h.all a ha
    obtain ⟨q, hq, _⟩ := hl.fwd a p hp
    exact ⟨q, hq⟩
  · obtain ⟨L, hL⟩ := h.tch; exact ⟨L, ch hL⟩
  · obtain ⟨h1, L, hL⟩ := h.sch hm; exact ⟨h1, L, ch hL⟩
  · obtain ⟨L, hL, hu⟩ := h.fch; exact ⟨L, ch hL, fun hm => by rw [um]; exact hu hm⟩
  · obtain ⟨p, hp, _, _, _, e4, e5⟩ := hl.back a q hq
    rw [e4, e5]
    rcases h.way a p hp with e | ⟨hf, h4, ⟨r, h1, h2, h3⟩ | h5⟩
    · exact .inl e
    · obtain ⟨r', hr', _, _, _, e6, e7⟩ := hl.fwd _ r h1
      exact .inr ⟨hf, h4, .inl ⟨r', hr', e6.trans h2, e7.trans h3⟩⟩
    · exact .inr ⟨hf, h4, .inr h5⟩
  · obtain ⟨p, hp, _, _, _, e4, e5⟩ := hl.back a q hq
    obtain ⟨p', hp', _, _, _, e4', e5'⟩ := hl.back b r hr'
    exact h.uniq a b p p' hp hp' (e4 ▸ h1) (e4' ▸ h2) (by rw [← e5, ← e5']; exact h3)
  · obtain ⟨p, hp, _, _, _, _, e5⟩ := hl.back a q hq
    rw [e5]; exact h.idb a p hp
end
end Go.Proofs.YtihmkkjmnbehbaaGreat.Wh
