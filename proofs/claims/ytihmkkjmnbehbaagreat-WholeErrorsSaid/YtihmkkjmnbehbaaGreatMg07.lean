/- Texts of the whole heap, joined: MatM. No condition beside those that each lemma names. -/
import Derived.Test.YtihmkkjmnbehbaaGreatMg06
/- A space as one part of memory: what its methods leave is a space. No condition. -/
set_option linter.unusedVariables false
set_option linter.unusedSimpArgs false
namespace Go.Proofs.YtihmkkjmnbehbaaGreat.Ma
open Go.RowKit Go.Proofs.YtihmkkjmnbehbaaGreat.W Go.Proofs.YtihmkkjmnbehbaaGreat.Cl
theorem MW.same {f n : Int} {lg lg' : List (Pg × Nat)} (m : MW f n lg) (e : lg'.map (·.1) = lg.map (·.1)) : MW f n lg' := by
  refine MW.of e ⟨m.f0, m.f1⟩ ⟨m.n0, m.n1⟩ (by simpa using m.len) (fun p hp => ?_) (fun i p hp hk => ?_)
  · obtain ⟨q, hq, rfl⟩ := List.mem_map.1 hp
    exact m.page q hq
  · rw [List.getElem?_map] at hp
    obtain ⟨q, hq, rfl⟩ := Option.map_eq_some_iff.1 hp
    rw [List.length_map]
    exact m.big i q hq hk
theorem MS.ok.mw {s : MS} (h : s.ok) {lg : List (Pg × Nat)} (e : lg.map (·.1) = s.l) : MW s.f s.w lg :=
  MW.of e h.1 h.2.1 h.2.2.1 h.2.2.2.1 h.2.2.2.2
theorem MW.ok {f n : Int} {lg : List (Pg × Nat)} (m : MW f n lg) {s : MS} (hf : s.f = f) (hn : s.w = n) (e : lg.map (·.1) = s.l) : s.ok := by
  obtain ⟨sf, sw, sl⟩ := s
  subst hf hn e
  refine ⟨⟨m.f0, m.f1⟩, ⟨m.n0, m.n1⟩, by simpa using m.len, fun p hp => ?_, fun i p hp hk => ?_⟩
  · obtain ⟨q, hq, rfl⟩ := List.mem_map.1 hp
    exact m.page q hq
  · rw [List.getElem?_map] at hp
    obtain ⟨q, hq, rfl⟩ := Option.map_eq_some_iff.1 hp
    rw [List.length_map]
    exact m.big i q hq hk
def g0 (l : List Pg) : List (Pg × Nat) := l.map (·, 0)
theorem g0_map (l : List Pg) : (g0 l).map (·.1) = l := by simp [g0, Function.comp_def]
theorem g0_get {l : List Pg} {i : Nat} {p : Pg} (h : l[i]? = some p) : (g0 l)[i]? = some (p, 0) := by simp [g0, h]
/-- Take, as a function. -/
def MS.take (s : MS) (x : Int) : MS := ⟨s.f, s.w, (takeR s.f s.w x s.l).2⟩
def MS.took (s : MS) (x : Int) : Option Int := (takeR s.f s.w x s.l).1
def giveR (f n : Int) (l : List Pg) (x : Int) : List Pg := match atO f n l x with
  | none => l
  | some y => match l[y.1]? with
    | none => l
    | some p => if p.kind = 2 then clr fre y.1 (pgs n p.size).toNat l else l.set y.1 (gvP p y.2)
def MS.give (s : MS) (x : Int) : MS := ⟨s.f, s.w, giveR s.f s.w s.l x⟩
def MS.has (s : MS) (x : Int) : Bool := (atO s.f s.w s.l x).isSome
def MS.size (s : MS) (x : Int) : Int := szO s.w s.l (atO s.f s.w s.l x)
def MS.pend (s : MS) : MS := ⟨s.f, s.w, s.l.map pdP⟩
def doneR (l : List Pg) (k : Int) : List Pg := if doneB l k then l.modify k.toNat unP else l
theorem modify_set {α : Type} {l : List α} {i : Nat} {p : α} (h : l[i]? = some p) (g : α → α) : l.modify i g = l.set i (g p) := by
  apply List.ext_getElem?
  intro j
  rw [List.getElem?_modify, List.getElem?_set]
  by_cases e : i = j
  · subst e
    rw [if_pos rfl, if_pos (List.getElem?_eq_some_iff.1 h).1, h]; simp
  · rw [if_neg e]; simp [e]
theorem modify_map {α β : Type} {l : List α} {i : Nat} {f : α → β} {g : α → α} {g' : β → β} (h : ∀ p, f (g p) = g' (f p)) : (l.modify i g).map f = (l.map f).modify i g' := by
  apply List.ext_getElem?
  intro j
  rw [List.getElem?_map, List.getElem?_modify, List.getElem?_modify, List.getElem?_map]
  cases l[j]? with
  | none => rfl
  | some x => by_cases e : i = j <;> simp [e, h]
def MS.done (s : MS) (k : Int) : MS := ⟨s.f, s.w, doneR s.l k⟩
theorem fb_some {size : Int} {l : List Pg} {j i k : Nat} (h : fb size l j = some (i, k)) : ∃ p, j ≤ i ∧ l[i - j]? = some p ∧ p.kind = 1 ∧ p.size = size ∧ p.pend = false ∧ fz p.used = some k := by
  induction l generalizing j with
  | nil => cases h
  | cons p r ih =>
    unfold fb at h
    have next : fb size r (j + 1) = some (i, k) → ∃ q, j ≤ i ∧ (p :: r)[i - j]? = some q ∧ q.kind = 1 ∧ q.size = size ∧ q.pend = false ∧ fz q.used = some k := fun h => by
      obtain ⟨q, h1, h2, h3⟩ := ih h
      refine ⟨q, by omega, ?_, h3⟩
      rw [show i - j = (i - (j + 1)) + 1 by omega]
      simpa using h2
    split at h
    · rename_i hc
      split at h
      · rename_i k' hk'
        cases h
        exact ⟨p, Nat.le_refl _, by simp, hc.1, hc.2.1, hc.2.2, hk'⟩
      · exact next h
    · exact next h
theorem newB_ok {n size : Int} (hn : 1 ≤ n) (h : 1 ≤ size ∧ size ≤ n) : (newB n size).ok n := by
  refine .inl ⟨rfl, h.1, h.2, ?_⟩
  have h0 : 0 ≤ n / size := Int.ediv_nonneg (by omega) (by omega)
  simp only [newB, List.length_set, List.length_replicate]
  omega
theorem ib_ok {s : MS} (hs : s.ok) {size : Int} (h : 1 ≤ size ∧ size ≤ s.w) : (⟨s.f, s.w, (ibR s.f s.w size s.l).2⟩ : MS).ok := by
  have m := hs.mw (g0_map s.l)
  cases hf : fb size s.l 0 with
  | some y =>
    obtain ⟨i, k⟩ := y
    obtain ⟨p, _, hp, _⟩ := fb_some hf
    rw [Nat.sub_zero] at hp
    rw [ibR_some hf hp]
    exact (m.mark (g0_get hp) k true).ok rfl rfl (by rw [List.map_set, g0_map]; rfl)
  | none =>
    rcases row1 (l := s.l) (i := 0) with h1 | ⟨q, p, h1, hp, hk⟩
    · rw [ibR_none hf h1]; exact hs
    · rw [Int.zero_add] at h1
      rw [ibR_new hf h1, Int.toNat_natCast]
      exact (m.set (g0_get hp) (newB s.w size, 0) (newB_ok hs.2.1.1 h) (fun h => absurd h (by show ¬ ((1 : Int) = 2); decide))).ok rfl rfl (by rw [List.map_set, g0_map])
theorem take_ok {s : MS} (hs : s.ok) {x : Int} (hx : x ≤ 9223372036854775807) : (s.take x).ok := by
  have m := hs.mw (g0_map s.l)
  have n0 := hs.2.1.1
  unfold MS.take takeR
  by_cases hx1 : x < 1
  · rw [if_pos hx1]; exact hs
  · rw [if_neg hx1]
    cases hb : big s.w x
    · rw [if_neg (by simp)]
      have h1 := rnd_b x
      have hle : rnd x ≤ s.w := by
        unfold big at hb
        have h1 : ¬ s.w / 2 < rnd x := by simpa using hb
        omega
      exact ib_ok hs ⟨by omega, hle⟩
    · rw [if_pos rfl]
      cases hr : rowGo (pgs s.w x) s.l 0 0 with
      | none => exact hs
      | some qi =>
        obtain ⟨q0, q1⟩ := rowGo_b hr (Int.le_refl 0)
        obtain ⟨c0, _⟩ := pgs_b n0 (by omega : 1 ≤ x)
        have hqd : qi.toNat + (pgs s.w x).toNat ≤ (g0 s.l).length := by simp [g0]; omega
        have m1 := m.fill qi.toNat (pgs s.w x).toNat hqd
        have hlt : qi.toNat < (fillG qi.toNat (pgs s.w x).toNat (g0 s.l)).length := by rw [fillG_len]; omega
        have m2 := m1.set (List.getElem?_eq_getElem hlt) (⟨2, x, [], false⟩, 0) (.inr ⟨(by show (2 : Int) ≠ 1; decide), rfl, (by show (0 : Int) ≤ 2; decide), (by show (2 : Int) ≤ 3; decide), fun _ => ⟨by show 1 ≤ x; omega, hx⟩⟩) (fun _ => by rw [fillG_len]; show (qi.toNat : Int) + pgs s.w x ≤ _; omega)
        exact m2.ok rfl rfl (by rw [List.map_set, fillG_map, g0_map])
theorem give_ok {s : MS} (hs : s.ok) (x : Int) : (s.give x).ok := by
  have m := hs.mw (g0_map s.l)
  unfold MS.give giveR
  cases ho : atO s.f s.w s.l x with
  | none => exact hs
  | some y =>
    obtain ⟨i, k⟩ := y
    obtain ⟨-, -, p, hp, hk⟩ := atO_some ho
    have hp' := hp
    simp only [hp]
    by_cases h2 : p.kind = 2
    · rw [if_pos h2]
      have hb := m.big_b (g0_get hp) h2
      simp only [] at hb
      have hle : i + (pgs s.w p.size).toNat ≤ (g0 s.l).length := by have := hb.2.2.2.1; have := hb.2.2.1; omega
      exact (m.clear hle).ok rfl rfl (by rw [clr_map, g0_map])
    · rw [if_neg h2]
      unfold gvP
      split
      · exact (m.set (g0_get hp) (fre, 0) (ok_fre _) (fun h => absurd h (by decide))).ok rfl rfl (by rw [List.map_set, g0_map])
      · exact (m.mark (g0_get hp) k false).ok rfl rfl (by rw [List.map_set, g0_map]; rfl)
theorem MW.pd {f n : Int} {lg : List (Pg × Nat)} (m : MW f n lg) : MW f n (lg.map pd) := by
  refine ⟨m.f0, m.f1, m.n0, m.n1, by rw [List.length_map]; exact m.len, fun x hx => ?_, fun j x hj hk => ?_⟩
  · obtain ⟨q, hq, rfl⟩ := List.mem_map.1 hx
    exact m.page q hq
  · rw [List.getElem?_map] at hj
    obtain ⟨q, hq, rfl⟩ := Option.map_eq_some_iff.1 hj
    rw [List.length_map]
    exact m.big j q hq hk
theorem pend_ok {s : MS} (hs : s.ok) : s.pend.ok :=
  (hs.mw (g0_map s.l)).pd.ok rfl rfl (by rw [List.map_map]; show List.map (pdP ∘ Prod.fst) (g0 s.l) = s.l.map pdP; rw [← List.map_map, g0_map])
theorem done_ok {s : MS} (hs : s.ok) (k : Int) : (s.done k).ok := by
  unfold MS.done doneR
  split
  · cases hp : s.l[k.toNat]? with
    | some p =>
      rw [modify_set hp]
      have m := hs.mw (g0_map s.l)
      have a1 := m.page _ (List.mem_of_getElem? (g0_get hp))
      have a2 := m.big _ _ (g0_get hp)
      exact (m.set (g0_get hp) (unP p, 0) a1 a2).ok rfl rfl (by rw [List.map_set, g0_map])
    | none =>
      have e : s.l.modify k.toNat unP = s.l := by
        apply List.ext_getElem?
        intro j
        rw [List.getElem?_modify]
        by_cases e : k.toNat = j
        · subst e; rw [hp]; rfl
        · simp [e]
      rw [e]; exact hs
  · exact hs
section
variable {W w : World} {oo : Nat → Prop} {b : Nat} {s s' : MS} {l : List Pr} {F : FuncId} {args : Array Value} {Q : Ending → Prop}
theorem Mat_lift (hc : ∀ (o : Nat → Prop) (L : Nat) (lg : List (Pg × Nat)), SepO w o w (mparts b L s.f s.w lg) → MW s.f s.w lg → lg.map (·.1) = s.l → Calls Tryz.prog F args w fun e w' => Q e ∧ ∃ lg', SepO w o w' (mparts b L s'.f s'.w lg') ∧ lg'.map (·.1) = s'.l) (hs' : s.ok → s'.ok)
    (h : SepO W oo w l) (k : Nat) (hk : l[k]? = some (Mat b s)) : Calls Tryz.prog F args w fun e w' => Q e ∧ SepO W oo w' (l.set k (Mat b s')) := by
  obtain ⟨o, ⟨⟨L, lg⟩, ⟨hok, hn⟩, hsep⟩, _, hup⟩ := h.open_ k hk
  refine (hc o L lg (SepO.enter hsep) (hok.mw hn) hn).mono ?_
  rintro e w' ⟨hq, lg', h', hn'⟩
  exact ⟨hq, hup w' (Mat b s') ⟨(L, lg'), ⟨hs' hok, hn'⟩, h'.leave⟩ h'.keep0⟩
theorem Mat_ok (h : SepO W oo w l) (k : Nat) (hk : l[k]? = some (Mat b s)) : s.ok := by
  obtain ⟨o, ⟨⟨L, lg⟩, ⟨hok, hn⟩, hsep⟩, _⟩ := h.get k hk
  exact hok
theorem Take_sep (x : Int) (hx : x ≤ 9223372036854775807) (h : SepO W oo w l) (k : Nat) (hk : l[k]? = some (Mat b s)) :
    Calls Tryz.prog 139 #[pt b, .int .i64 x] w fun e w' => e = .returned (.tuple #[.int .i64 (oI (s.took x)), .bool (s.took x).isSome]) ∧ SepO W oo w' (l.set k (Mat b (s.take x))) :=
  Mat_lift (Q := fun e => e = .returned (.tuple #[.int .i64 (oI (s.took x)), .bool (s.took x).isSome])) (fun o L lg h m e => by
    have := Take_in x hx h m
    rw [e] at this
    exact this) (fun hs => take_ok hs hx) h k hk
theorem Give_sep (x : Int) (hx : -9223372036854775808 ≤ x ∧ x ≤ 9223372036854775807) (h : SepO W oo w l) (k : Nat) (hk : l[k]? = some (Mat b s)) :
    Calls Tryz.prog 152 #[pt b, .int .i64 x] w fun e w' => e = .returned (.bool (s.has x)) ∧ SepO W oo w' (l.set k (Mat b (s.give x))) :=
  Mat_lift (Q := fun e => e = .returned (.bool (s.has x))) (fun o L lg h m e => by
    cases ho : atO s.f s.w s.l x with
    | none =>
      have hg : s.give x = s := by unfold MS.give giveR; rw [ho]
      have hh : s.has x = false := by unfold MS.has; rw [ho]; rfl
      rw [hg, hh]
      refine (Give_none x h m hx (by rw [e]; exact ho)).mono ?_
      rintro e w' ⟨rfl, h'⟩
      exact ⟨rfl, lg, h', by assumption⟩
    | some y =>
      obtain ⟨i, j⟩ := y
      have hh : s.has x = true := by unfold MS.has; rw [ho]; rfl
      rw [hh]
      obtain ⟨-, -, p, hp, hkk⟩ := atO_some ho
      have hp2 := hp
      rw [← e, List.getElem?_map] at hp
      obtain ⟨q, hq, rfl⟩ := Option.map_eq_some_iff.1 hp
      by_cases h2 : q.1.kind = 2
      · have hg : (s.give x).l = clr fre i (pgs s.w q.1.size).toNat s.l := by unfold MS.give giveR; simp only [ho, hp2]; rw [if_pos h2]
        refine (Give_large x h m hx (by rw [e]; exact ho) hq h2).mono ?_
        rintro e' w' ⟨rfl, h'⟩
        exact ⟨rfl, _, h', by rw [clr_map, e, hg]⟩
      · have h1 : q.1.kind = 1 := by rcases hkk with h | h
                                     · exact absurd h.1 h2
                                     · exact h.1
        have hg : (s.give x).l = s.l.set i (gvP q.1 j) := by unfold MS.give giveR; simp only [ho, hp2]; rw [if_neg h2]
        refine (Give_cell x h m hx (by rw [e]; exact ho) hq h1).mono ?_
        rintro e' w' ⟨rfl, lg', h', e2⟩
        exact ⟨rfl, lg', h', by rw [e2, e, hg]⟩) (fun hs => give_ok hs x) h k hk
theorem Size_sep (x : Int) (hx : -9223372036854775808 ≤ x ∧ x ≤ 9223372036854775807) (h : SepO W oo w l) (k : Nat) (hk : l[k]? = some (Mat b s)) :
    Calls Tryz.prog 25 #[pt b, .int .i64 x] w fun e w' => e = .returned (.tuple #[.int .i64 (s.size x), .bool (s.has x)]) ∧ SepO W oo w' l := by
  have := Mat_lift (s' := s) (Q := fun e => e = .returned (.tuple #[.int .i64 (s.size x), .bool (s.has x)])) (fun o L lg h m e => by
    have := Size_in x h m hx
    rw [e] at this
    exact this.mono fun e w' ⟨he, h'⟩ => ⟨he, lg, h', by assumption⟩) id h k hk
  rwa [list_same hk] at this
theorem Mat_read {R : World → Prop} (hc : ∀ (o : Nat → Prop) (L : Nat) (lg : List (Pg × Nat)), SepO w o w (mparts b L s.f s.w lg) → MW s.f s.w lg → lg.map (·.1) = s.l → Calls Tryz.prog F args w fun e w' => Q e ∧ SepO w o w' (mparts b L s.f s.w lg))
    (h : SepO W oo w l) (k : Nat) (hk : l[k]? = some (Mat b s)) : Calls Tryz.prog F args w fun e w' => Q e ∧ SepO W oo w' l := by
  have := Mat_lift (s' := s) (Q := Q) (fun o L lg h m e => (hc o L lg h m e).mono fun e w' ⟨he, h'⟩ => ⟨he, lg, h', by assumption⟩) id h k hk
  rwa [list_same hk] at this
theorem Free_sep (h : SepO W oo w l) (k : Nat) (hk : l[k]? = some (Mat b s)) : Calls Tryz.prog 108 #[pt b] w fun e w' => e = .returned (.int .i64 (freeN s.l)) ∧ SepO W oo w' l :=
  Mat_read (R := fun _ => True) (Q := fun e => e = .returned (.int .i64 (freeN s.l))) (fun o L lg h m e => by
    have := Free_in h m
    rw [e] at this
    exact this.mono fun e w' ⟨he, h'⟩ => ⟨he, h' ▸ h⟩) h k hk
theorem Used_sep (h : SepO W oo w l) (k : Nat) (hk : l[k]? = some (Mat b s)) : Calls Tryz.prog 92 #[pt b] w fun e w' => e = .returned (.int .i64 (usL s.f s.w s.l s.l 0)) ∧ SepO W oo w' l :=
  Mat_read (R := fun _ => True) (Q := fun e => e = .returned (.int .i64 (usL s.f s.w s.l s.l 0))) (fun o L lg h m e => by
    have := Used_in h m
    rw [e] at this
    exact this) h k hk
def pnI (s : MS) : Int := match pn s.l with | some k => (k : Int) | none => 0
theorem Pending_sep (h : SepO W oo w l) (k : Nat) (hk : l[k]? = some (Mat b s)) : Calls Tryz.prog 149 #[pt b] w fun e w' => e = .returned (.tuple #[.int .i64 (pnI s), .bool (pn s.l).isSome]) ∧ SepO W oo w' l :=
  Mat_read (R := fun _ => True) (Q := fun e => e = .returned (.tuple #[.int .i64 (pnI s), .bool (pn s.l).isSome])) (fun o L lg h m e => by
    have := Pending_in h m
    rw [e] at this
    exact this.mono fun e w' ⟨he, h'⟩ => ⟨he, h' ▸ h⟩) h k hk
theorem Page_sep (x : Int) (h : SepO W oo w l) (k : Nat) (hk : l[k]? = some (Mat b s)) : Calls Tryz.prog 150 #[pt b, .int .i64 x] w fun e w' => e = .returned (.tuple #[.int .i64 (if 0 ≤ x ∧ x < s.l.length then s.f + x * s.w else 0), .int .i64 (if 0 ≤ x ∧ x < s.l.length then s.f + x * s.w + s.w else 0)]) ∧ SepO W oo w' l :=
  Mat_read (R := fun _ => True) (Q := fun e => e = .returned (.tuple #[.int .i64 (if 0 ≤ x ∧ x < s.l.length then s.f + x * s.w else 0), .int .i64 (if 0 ≤ x ∧ x < s.l.length then s.f + x * s.w + s.w else 0)])) (fun o L lg h m e => by
    have := Page_in x h m
    rw [show lg.length = s.l.length from by rw [← e]; simp] at this
    exact this.mono fun e w' ⟨he, j, h'⟩ => ⟨he, h' ▸ h.drewN j⟩) h k hk
theorem Pend_sep (h : SepO W oo w l) (k : Nat) (hk : l[k]? = some (Mat b s)) : Calls Tryz.prog 148 #[pt b] w fun e w' => e = .returned (.tuple #[]) ∧ SepO W oo w' (l.set k (Mat b s.pend)) :=
  Mat_lift (Q := fun e => e = .returned (.tuple #[])) (fun o L lg h m e => (Pend_in h m).mono fun e' w' ⟨he, h'⟩ => ⟨he, _, h', by rw [List.map_map]; show List.map (pdP ∘ Prod.fst) lg = s.l.map pdP; rw [← List.map_map, e]⟩) pend_ok h k hk
theorem Done_sep (x : Int) (h : SepO W oo w l) (k : Nat) (hk : l[k]? = some (Mat b s)) : Calls Tryz.prog 153 #[pt b, .int .i64 x] w fun e w' => e = .returned (.bool (doneB s.l x)) ∧ SepO W oo w' (l.set k (Mat b (s.done x))) :=
  Mat_lift (Q := fun e => e = .returned (.bool (doneB s.l x))) (fun o L lg h m e => by
    have := Done_in x h m
    rw [e] at this
    refine this.mono fun e' w' ⟨he, h'⟩ => ⟨he, _, h', ?_⟩
    unfold MS.done doneR
    split
    · rw [← e]; exact modify_map (fun p => rfl)
    · exact e) (fun hs => done_ok hs x) h k hk
theorem Starts_sep (fr te : Int) (h : SepO W oo w l) (k : Nat) (hk : l[k]? = some (Mat b s)) : Calls Tryz.prog 151 #[pt b, .int .i64 fr, .int .i64 te] w fun e w' => ∃ A c, e = .returned (.slice A (stL s.f s.w fr te s.l 0).length c) ∧ SepO W oo w' (l ++ [rowP 3 A (stL s.f s.w fr te s.l 0).length c ((stL s.f s.w fr te s.l 0).map (Value.int .i64))]) := by
  obtain ⟨o, ⟨⟨L, lg⟩, ⟨hok, hn⟩, hsep⟩, _, hup⟩ := h.open_ k hk
  have := Starts_in fr te (SepO.enter hsep) (hok.mw hn)
  rw [hn] at this
  refine this.mono ?_
  rintro e w' ⟨A, c, he, h'⟩
  refine ⟨A, c, he, ?_⟩
  replace h' := h'.unpack
  have h1 := hup w' (sepP (mparts b L s.f s.w lg ++ [rowP 3 A (stL s.f s.w fr te s.l 0).length c ((stL s.f s.w fr te s.l 0).map (Value.int .i64))])) h'.leave h'.keep0
  have hkl := (List.getElem?_eq_some_iff.1 hk).1
  have h2 := h1.split_m (A := mparts b L s.f s.w lg) (B := [rowP 3 A (stL s.f s.w fr te s.l 0).length c ((stL s.f s.w fr te s.l 0).map (Value.int .i64))]) k (by rw [List.getElem?_set, if_pos rfl, if_pos hkl])
  rw [List.set_set] at h2
  have h3 := h2.weaken (Q := Mat b s) k (by rw [List.getElem?_append_left (by simpa using hkl), List.getElem?_set, if_pos rfl, if_pos hkl]) (fun w o hp => ⟨(L, lg), ⟨hok, hn⟩, hp⟩)
  rw [List.set_append_left _ _ (by simpa using hkl), List.set_set, list_same hk] at h3
  exact h3
def mnew (fr ps wd : Int) : MS := ⟨cut3 0 1048576 fr, cut3 1 256 wd, List.replicate (cut3 0 64 ps).toNat fre⟩
theorem cut3_b {lo hi x : Int} (h : lo ≤ hi) : lo ≤ cut3 lo hi x ∧ cut3 lo hi x ≤ hi := by unfold cut3; (repeat' split) <;> omega
theorem mnew_ok (fr ps wd : Int) : (mnew fr ps wd).ok := by
  have h1 := cut3_b (lo := 0) (hi := 64) (x := ps) (by omega)
  refine ⟨cut3_b (by omega), cut3_b (by omega), by simp only [mnew, List.length_replicate]; omega, fun p hp => ?_, fun n p hp hk => ?_⟩
  · rw [List.eq_of_mem_replicate hp]; exact ok_fre _
  · rw [List.eq_of_mem_replicate (List.mem_of_getElem? hp)] at hk; exact absurd hk (by decide)
theorem New_sep (fr ps wd : Int) (h : SepO W oo w l) : Calls Tryz.prog 66 #[.int .i64 fr, .int .i64 ps, .int .i64 wd] w fun e w' => ∃ b, e = .returned (pt b) ∧ SepO W oo w' (l ++ [Mat b (mnew fr ps wd)]) := by
  refine (New_in fr ps wd (Sep.nil w)).mono ?_
  rintro e w' ⟨b, L, rfl, h'⟩
  refine ⟨b, rfl, h.add h'.keep0 ?_⟩
  have h3 := h'.leave
  have h4 := (sepP _).mono h3 (o' := fun i => w.heap.size ≤ i) (fun i h => h.elim (fun h => False.elim h) id)
  exact ⟨(L, List.replicate (cut3 0 64 ps).toNat (fre, 0)), ⟨mnew_ok fr ps wd, by simp [mnew]⟩, h4⟩
end
end Go.Proofs.YtihmkkjmnbehbaaGreat.Ma
