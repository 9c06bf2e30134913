/- Texts of the whole heap, joined: MatW WhO WhP WhQ WhR. No condition beside those that each lemma names. -/
import Derived.Test.YtihmkkjmnbehbaaGreatMg21
/- What is held while pages are pending. No condition. -/
set_option linter.unusedVariables false
set_option linter.unusedSimpArgs false
namespace Go.Proofs.YtihmkkjmnbehbaaGreat.Ma
open Go.RowKit Go.Proofs.YtihmkkjmnbehbaaGreat.W Go.Proofs.YtihmkkjmnbehbaaGreat.Cl
theorem si_take {s : MS} (hs : SI s) {x : Int} (hx : x ≤ 9223372036854775807) : SI (s.take x) := by
  cases h : s.took x with
  | none => rw [take_none h]; exact hs
  | some a => exact (take_spec hs hx h).si
/-- A space over so many pages. -/
structure PI (f n : Int) (p : Nat) (s : MS) : Prop where
  si : SI s
  f : s.f = f
  w : s.w = n
  len : s.l.length = p
theorem PI.take {f n : Int} {p : Nat} {s : MS} (h : PI f n p s) {x : Int} (hx : x ≤ 9223372036854775807) : PI f n p (s.take x) := by
  cases ht : s.took x with
  | none => rw [take_none ht]; exact h
  | some a =>
    have t := take_spec h.si hx ht
    exact ⟨t.si, t.f.trans h.f, t.w.trans h.w, t.len.trans h.len⟩
theorem PI.give {f n : Int} {p : Nat} {s : MS} (h : PI f n p s) (x : Int) : PI f n p (s.give x) := by
  cases hh : s.has x
  · rw [give_not hh]; exact h
  · obtain ⟨i, k, q, hu⟩ := (has_iff h.si.ok).1 hh
    have t := give_spec h.si hu
    exact ⟨t.si, t.f.trans h.f, t.w.trans h.w, t.len.trans h.len⟩
theorem pend_get {s : MS} (j : Nat) : s.pend.l[j]? = s.l[j]?.map pdP := by simp [MS.pend]
theorem si_pend {s : MS} (hs : SI s) : SI s.pend := by
  have g : ∀ (j : Nat) (q : Pg), s.pend.l[j]? = some q → ∃ p, s.l[j]? = some p ∧ q = pdP p := fun j q h => by
    rw [pend_get] at h
    obtain ⟨p, hp, e⟩ := Option.map_eq_some_iff.1 h
    exact ⟨p, hp, e.symm⟩
  refine ⟨pend_ok hs.ok, ?_, ?_, ?_, ?_⟩
  · intro i q hq hk j h1 h2
    obtain ⟨p, hp, rfl⟩ := g i q hq
    obtain ⟨r, hr, h3⟩ := hs.big i p hp hk j h1 h2
    exact ⟨pdP r, by rw [pend_get, hr]; rfl, h3⟩
  · intro j q hq hk
    obtain ⟨p, hp, rfl⟩ := g j q hq
    obtain ⟨i, r, hr, h2, h3, h4⟩ := hs.own j p hp hk
    exact ⟨i, pdP r, by rw [pend_get, hr]; rfl, h2, h3, h4⟩
  · intro i q hq hk
    obtain ⟨p, hp, rfl⟩ := g i q hq
    exact hs.cell i p hp hk
  · intro i q hq h1 h2
    obtain ⟨p, hp, rfl⟩ := g i q hq
    have e1 : p.kind ≠ 1 := h1
    have e2 : p.kind ≠ 2 := h2
    simp [pdP, e1, e2]
theorem PI.pend {f n : Int} {p : Nat} {s : MS} (h : PI f n p s) : PI f n p s.pend := ⟨si_pend h.si, h.f, h.w, by simp [MS.pend, h.len]⟩
theorem use_pend {s : MS} {x : Int} {i k : Nat} {p : Pg} (h : Use s x i k p) : Use s.pend x i k (pdP p) := ⟨by rw [pend_get, h.1]; rfl, h.2⟩
/-- Pages that are held. -/
def HeldOk (s : MS) (H : List Bool) : Prop := ∀ j : Nat, H[j]? = some true → ∃ p, s.l[j]? = some p ∧ p.kind ≠ 0 ∧ (p.kind = 1 → p.pend = true)
theorem held_take {s s' : MS} {a x : Int} {H : List Bool} (h : HeldOk s H) (t : TakeOk s s' a x) : HeldOk s' H := fun j hj => by
  obtain ⟨p, h1, h2, h3⟩ := h j hj
  exact ⟨p, t.held j p h1 h2 h3, h2, h3⟩
theorem held_new {s s' : MS} {a x : Int} {H : List Bool} (h : HeldOk s H) (t : TakeOk s s' a x) : s.f ≤ a ∧ (a - s.f) / s.w < s.l.length ∧ 0 ≤ (a - s.f) / s.w ∧ H[((a - s.f) / s.w).toNat]? ≠ some true := by
  obtain ⟨i, k, p, hu, _, p0, hp0, hk⟩ := t.new
  have h1 := (atO_some (use_at t.si.ok hu))
  rw [t.f, t.w] at h1
  have w0 := t.si.ok.2.1.1
  rw [t.w] at w0
  have hd0 : 0 ≤ (a - s.f) / s.w := Int.ediv_nonneg (by omega) (by omega)
  have hil := (List.getElem?_eq_some_iff.1 hp0).1
  refine ⟨h1.1, by omega, hd0, fun e => ?_⟩
  rw [← h1.2.1] at e
  obtain ⟨q, hq, h2, h3⟩ := h i e
  rw [hp0] at hq
  cases hq
  rcases hk with hk | ⟨hk, hk2⟩
  · exact h2 hk
  · rw [h3 hk] at hk2; cases hk2
theorem div_in {w i c r : Int} (hw : 1 ≤ w) (h0 : i * w ≤ r) (h1 : r < (i + c) * w) : i ≤ r / w ∧ r / w < i + c :=
  ⟨(Int.le_ediv_iff_mul_le (by omega)).2 h0, (Int.ediv_lt_iff_lt_mul (by omega)).2 h1⟩
theorem held_mark {s : MS} (hs : SI s) {H : List Bool} (h : HeldOk s.pend H) {x y : Int} (hx : s.has x = true) (h0 : x ≤ y) (h1 : y < x + s.size x) : s.f ≤ y ∧ 0 ≤ (y - s.f) / s.w ∧ (y - s.f) / s.w < s.l.length ∧ HeldOk s.pend (H.set ((y - s.f) / s.w).toNat true) := by
  obtain ⟨i, k, p, hu⟩ := (has_iff hs.ok).1 hx
  rw [use_size hs.ok hu] at h1
  have he := use_end hs.ok hu
  have w0 := hs.ok.2.1.1
  obtain ⟨a1, a2, a3, a4⟩ := use_in hs.ok hu
  have hd0 : 0 ≤ (y - s.f) / s.w := Int.ediv_nonneg (by omega) (by omega)
  have hdl : (y - s.f) / s.w < s.l.length := (Int.ediv_lt_iff_lt_mul (by omega)).2 (by omega)
  have key : ∃ q, s.l[((y - s.f) / s.w).toNat]? = some q ∧ q.kind ≠ 0 := by
    rcases hu.2 with ⟨h2, _⟩ | ⟨h2, _⟩
    · obtain ⟨b1, b2, b3, b4⟩ := a4 h2
      obtain ⟨d1, d2⟩ := div_in (w := s.w) (i := i) (c := pgs s.w p.size) (r := y - s.f) w0 (by omega) (by rw [Int.add_mul]; omega)
      by_cases e : ((y - s.f) / s.w).toNat = i
      · rw [e]; exact ⟨p, hu.1, by omega⟩
      · obtain ⟨q, hq, hk⟩ := hs.big i p hu.1 h2 ((y - s.f) / s.w).toNat (by omega) (by omega)
        exact ⟨q, hq, by omega⟩
    · have b := a3 h2
      obtain ⟨d1, d2⟩ := div_in (w := s.w) (i := i) (c := 1) (r := y - s.f) w0 (by omega) (by rw [Int.add_mul]; omega)
      rw [show ((y - s.f) / s.w).toNat = i by omega]
      exact ⟨p, hu.1, by omega⟩
  refine ⟨by omega, hd0, hdl, fun j hj => ?_⟩
  rw [List.getElem?_set] at hj
  split at hj
  · rename_i e
    subst e
    obtain ⟨q, hq, hk⟩ := key
    refine ⟨pdP q, by rw [pend_get, hq]; rfl, hk, fun h1 => ?_⟩
    have e1 : q.kind = 1 := h1
    simp [pdP, e1]
  · exact h j hj
theorem size_pend {s : MS} (hs : SI s) {x : Int} (hx : s.has x = true) : s.pend.size x = s.size x ∧ s.pend.has x = true := by
  obtain ⟨i, k, p, hu⟩ := (has_iff hs.ok).1 hx
  refine ⟨?_, (has_iff (pend_ok hs.ok)).2 ⟨i, k, _, use_pend hu⟩⟩
  rw [use_size hs.ok hu, use_size (pend_ok hs.ok) (use_pend hu)]
  rfl
theorem size_b {f n : Int} {p : Nat} {s : MS} (h : PI f n p s) {x : Int} (hx : s.has x = true) : 1 ≤ s.size x ∧ f ≤ x ∧ x + s.size x ≤ f + p * n := by
  obtain ⟨i, k, q, hu⟩ := (has_iff h.si.ok).1 hx
  rw [use_size h.si.ok hu]
  have h1 := use_end h.si.ok hu
  rw [h.f, h.len] at h1
  have h2 := (use_in h.si.ok hu).2.1
  rw [h.w] at h1 h2 ⊢
  exact ⟨h2, h1⟩
theorem stl_len {s : MS} (hs : s.ok) {fr te : Int} : ∀ (n j : Nat), n = s.l.length - j → (stL s.f s.w fr te (s.l.drop j) j).length ≤ n * 256 := by
  intro n
  induction n with
  | zero =>
    intro j hn
    rw [List.drop_of_length_le (by omega)]
    exact Nat.le_refl _
  | succ n ih =>
    intro j hn
    have hj : j < s.l.length := by omega
    have hp : s.l[j]? = some s.l[j] := List.getElem?_eq_getElem hj
    rw [stL_drop hp, List.length_append]
    have h1 := ih (j + 1) (by omega)
    have h2 := (stP_b (hs.mw (g0_map s.l)) (g0_get hp)).1
    have h3 : (if s.f + j * s.w + s.w ≤ fr ∨ te ≤ s.f + j * s.w then [] else inn fr te (stP s.f s.w j s.l[j])).length ≤ 256 := by
      split
      · exact Nat.zero_le _
      · exact Nat.le_trans (List.length_filter_le _ _) h2
    omega
theorem starts_len {s : MS} (hs : s.ok) (fr te : Int) : (stL s.f s.w fr te s.l 0).length ≤ 16384 := by
  have h := stl_len hs (fr := fr) (te := te) s.l.length 0 (by omega)
  rw [List.drop_zero] at h
  have := hs.2.2.1
  omega
/-- How many pages are pending. -/
def pc (l : List Pg) : Nat := l.countP (·.pend)
theorem pn_some {l : List Pg} {k : Nat} (h : pn l = some k) : ∃ p, l[k]? = some p ∧ p.pend = true := by
  induction l generalizing k with
  | nil => cases h
  | cons p r ih =>
    unfold pn at h
    split at h
    · rename_i hp
      cases h
      exact ⟨p, rfl, hp⟩
    · obtain ⟨j, hj, rfl⟩ := Option.map_eq_some_iff.1 h
      obtain ⟨q, hq, e⟩ := ih hj
      exact ⟨q, by simpa using hq, e⟩
theorem pc_set {l : List Pg} {k : Nat} {p : Pg} (h : l[k]? = some p) (hp : p.pend = true) : pc (l.set k (unP p)) + 1 = pc l := by
  induction l generalizing k with
  | nil => cases h
  | cons q r ih =>
    cases k with
    | zero =>
      simp only [List.getElem?_cons_zero, Option.some.injEq] at h
      subst h
      simp [pc, List.set_cons_zero, List.countP_cons, hp, unP]
    | succ k =>
      have := ih (k := k) (by simpa using h)
      simp only [pc, List.set_cons_succ, List.countP_cons] at this ⊢
      omega
theorem done_pn {s : MS} {k : Nat} (h : pn s.l = some k) : doneB s.l k = true ∧ pc (s.done k).l + 1 = pc s.l ∧ doneB (s.done k).l k = false ∧ (s.done k).l.length = s.l.length ∧ (s.done k).done k = s.done k := by
  obtain ⟨p, hp, h1⟩ := pn_some h
  have d1 : doneB s.l k = true := by
    unfold doneB
    rw [if_pos (by omega), Int.toNat_natCast, hp]
    exact h1
  have e : (s.done k).l = s.l.set k (unP p) := by
    unfold MS.done doneR
    rw [if_pos d1, Int.toNat_natCast]
    exact modify_set hp unP
  have d2 : doneB (s.done k).l k = false := by
    unfold doneB
    rw [if_pos (by omega), Int.toNat_natCast, e, List.getElem?_set, if_pos rfl, if_pos (List.getElem?_eq_some_iff.1 hp).1]
    rfl
  refine ⟨d1, by rw [e]; exact pc_set hp h1, d2, by rw [e]; simp, ?_⟩
  show (⟨_, _, doneR (s.done k).l k⟩ : MS) = _
  unfold doneR
  rw [d2]
  rfl
theorem PI.done {f n : Int} {p : Nat} {s : MS} (h : PI f n p s) (k : Int) : PI f n p (s.done k) := by
  by_cases hd : doneB s.l k = true
  · have e : (s.done k).l = s.l.modify k.toNat unP := by unfold MS.done doneR; rw [if_pos hd]
    have g : ∀ (j : Nat) (q : Pg), (s.done k).l[j]? = some q → ∃ p, s.l[j]? = some p ∧ q.kind = p.kind ∧ q.size = p.size ∧ q.used = p.used ∧ (q = p ∨ q.pend = false) := fun j q h => by
      rw [e, List.getElem?_modify] at h
      obtain ⟨p, hp, rfl⟩ := Option.map_eq_some_iff.1 h
      refine ⟨p, hp, ?_⟩
      split
      · exact ⟨rfl, rfl, rfl, .inr rfl⟩
      · exact ⟨rfl, rfl, rfl, .inl rfl⟩
    have g' : ∀ (j : Nat) (p : Pg), s.l[j]? = some p → ∃ q, (s.done k).l[j]? = some q ∧ q.kind = p.kind ∧ q.size = p.size := fun j p h => by
      rw [e, List.getElem?_modify, h]
      refine ⟨_, rfl, ?_⟩
      split <;> exact ⟨rfl, rfl⟩
    refine ⟨⟨done_ok h.si.ok k, ?_, ?_, ?_, ?_⟩, h.f, h.w, by rw [e, List.length_modify]; exact h.len⟩
    · intro i q hq hk j h1 h2
      obtain ⟨p, hp, e1, e2, _⟩ := g i q hq
      rw [e2] at h2
      obtain ⟨r, hr, h3⟩ := h.si.big i p hp (e1 ▸ hk) j h1 h2
      obtain ⟨r', hr', e3, _⟩ := g' j r hr
      exact ⟨r', hr', e3.trans h3⟩
    · intro j q hq hk
      obtain ⟨p, hp, e1, e2, _⟩ := g j q hq
      obtain ⟨i, r, hr, h2, h3, h4⟩ := h.si.own j p hp (e1 ▸ hk)
      obtain ⟨r', hr', e3, e4⟩ := g' i r hr
      exact ⟨i, r', hr', e3.trans h2, h3, by rw [e4]; exact h4⟩
    · intro i q hq hk
      obtain ⟨p, hp, e1, e2, e3, _⟩ := g i q hq
      rw [e3]
      exact h.si.cell i p hp (e1 ▸ hk)
    · intro i q hq h1 h2
      obtain ⟨p, hp, e1, e2, e3, e4⟩ := g i q hq
      rcases e4 with e4 | e4
      · rw [e4]; exact h.si.rest i p hp (e1 ▸ h1) (e1 ▸ h2)
      · exact e4
  · have : s.done k = s := by
      unfold MS.done doneR
      rw [if_neg hd]
    rw [this]; exact h
theorem pc_le (l : List Pg) : pc l ≤ l.length := List.countP_le_length
theorem pi_new {f n : Int} {p : Nat} (h0 : 0 ≤ f ∧ f ≤ 1048576) (h1 : 1 ≤ n ∧ n ≤ 256) (h2 : p ≤ 64) : PI f n p (mnew f p n) := by
  have := ai_new h0 h1 h2
  exact ⟨this.si, this.f, this.w, this.len⟩
end Go.Proofs.YtihmkkjmnbehbaaGreat.Ma
/- Old objects of a part, of the row; what a bit of the minor cycle looks at. Condition: the row is not too long. -/
set_option linter.unusedVariables false
set_option linter.unusedSimpArgs false
namespace Go.Proofs.YtihmkkjmnbehbaaGreat.Wh
open Go.RowKit Go.Proofs.YtihmkkjmnbehbaaGreat.W Go.Proofs.YtihmkkjmnbehbaaGreat.Sm
theorem thr_row (a : Int) : ∀ (k : Nat) (n : Int) (y : Bool) (S : CS), (CS.thr a k n y S).2.row.length ≤ S.row.length + k := by
  intro k
  induction k with
  | zero => intro n y S; exact Nat.le_refl _
  | succ k ih =>
    intro n y S
    unfold CS.thr
    have h1 := move_row S (S.ref a n)
    simp only []
    refine Nat.le_trans (ih _ _ _) ?_
    split
    · show (S.move (S.ref a n)).2.row.length + k ≤ _; omega
    · omega
theorem note_row (S : CS) (a : Int) : (S.note a).row = S.row := by
  unfold CS.note
  split
  · rfl
  · simp only []; split <;> rfl
theorem through_row (S : CS) (a : Int) : (S.through a).2.row.length ≤ S.row.length + 64 := by
  unfold CS.through
  have h := thr_row a (S.hd a).ptrs.toNat 0 false S
  obtain ⟨b0, b1, b2, b3, _⟩ := hd_b S a
  simp only []
  split
  · rw [note_row]; omega
  · omega
theorem noted_row (S : CS) (a : Int) : (S.noted a).2.row.length ≤ S.row.length + 64 ∧ 0 ≤ (S.noted a).1 ∧ (S.noted a).1 ≤ 66 := by
  unfold CS.noted
  split
  · simp
  · split
    · simp
    · refine ⟨through_row _ a, ?_⟩
      have := words_b (CS.hd (S.setHd a { S.hd a with noted := false }) a)
      show 0 ≤ Ob.wordsOf _ ∧ Ob.wordsOf _ ≤ 66
      omega
/-- What begins in a part are places. -/
theorem starts_b {s : Ma.MS} (hs : s.ok) {fr te x : Int} (h : x ∈ Ma.stL s.f s.w fr te s.l 0) : I64 x := by
  obtain ⟨_, _, h3⟩ := (Ma.starts_iff hs).1 h
  obtain ⟨i, k, p, hu⟩ := (Ma.has_iff hs).1 h3
  have e := Ma.use_end hs hu
  have e1 := Ma.use_in hs hu
  obtain ⟨⟨f0, f1⟩, ⟨w0, w1⟩, hl, _⟩ := hs
  have := Int.mul_le_mul (by omega : (s.l.length : Int) ≤ 64) w1 (by omega) (by omega)
  exact ⟨by omega, by omega⟩
section
variable {W w : World} {oo : Nat → Prop} {k : CK} {S : CS} {l : List Pr} {F : FuncId} {args : Array Value}
theorem oStarts_in (f t : Int) (h : SepO W oo w (cparts k S ++ l)) : Calls Tryz.prog 151 #[pt k.o, .int .i64 f, .int .i64 t] w fun e w' => ∃ A c, e = .returned (.slice A (Ma.stL S.o.f S.o.w f t S.o.l 0).length c) ∧ SepO W oo w' (cparts k S ++ (l ++ [Ma.rowI8 A c (Ma.stL S.o.f S.o.w f t S.o.l 0)])) :=
  (Ma.Starts_sep f t h 3 rfl).mono fun e w' ⟨A, c, he, h'⟩ => ⟨A, c, he, by rw [← List.append_assoc]; exact h'⟩
theorem c_last' {P : Pr} : (cparts k S ++ (l ++ [P]))[8 + l.length]? = some P := c_last
set_option maxRecDepth 20000 in
set_option maxHeartbeats 4000000 in
theorem part_in (f t : Int) (hrb : RB 800000000 S) (h : SepO W oo w (cparts k S ++ l)) : Calls Tryz.prog 127 #[pt k.c, .int .i64 f, .int .i64 t] w fun e w' => e = .returned (.int .i64 (S.part f t).1) ∧ ∃ A m, SepO W oo w' (cparts (k.rw A m) (S.part f t).2 ++ l) := by
  obtain ⟨⟨_, _, c15, _⟩, _, hbl, _⟩ := c_at h
  have hok := o_ok h
  have H := Lib.hid h
  obtain ⟨R, hR⟩ : ∃ R, S.part f t = R := ⟨_, rfl⟩
  rw [hR]
  obtain ⟨L, hL⟩ : ∃ L, Ma.stL S.o.f S.o.w f t S.o.l 0 = L := ⟨_, rfl⟩
  have hRe : CS.partL L 0 S = R := by rw [← hR, ← hL]; rfl
  have hLb : ∀ x, x ∈ L → I64 x := fun x hx => starts_b hok (by rw [hL]; exact hx)
  have hLl : L.length ≤ 16384 := by rw [← hL]; exact Ma.starts_len hok f t
  have HRE := Lib.hid hRe
  have HLB := Lib.hid hLb
  have HSL := Lib.hid hL
  clear h hR hRe hLb hok hL
  go_enter Tryz.func127, Tryz.ntmps127
  go_wp2_with fail
  refine (oStarts_in f t H.out).mono ?_
  rintro e w1 ⟨A1, n1, rfl, h1⟩
  rw [HSL.out] at h1 ⊢
  have H1 := Lib.hid h1
  clear h1 H
  go_wp2_with fail
  go_loopg [7, 9, 18] L.length (fun gk n7 s9 n18 wr => ∃ (j : Nat) (d : Int) (S' : CS) (A : Option Addr) (m : Nat), j + gk = L.length ∧ n18 = .int .i64 j ∧ n7 = .int .i64 d ∧ 0 ≤ d ∧ d ≤ 66 * j ∧ CS.partL (L.drop j) d S' = R ∧ S'.row.length ≤ S.row.length + 64 * j ∧ SepO W oo wr (cparts (k.rw A m) S' ++ (l ++ [Ma.rowI8 A1 n1 L])))
  case atStart => exact ⟨0, 0, S, k.A, k.n, by omega, rfl, rfl, by omega, by omega, by have := HRE.out; simpa using this, by omega, H1.out⟩
  case round =>
    clear H1 HRE
    obtain ⟨j, d, S', A, m, hj, rfl, rfl, hd0, hd1, ht, hrow, h⟩ := hrel
    have HJ := Lib.hid hj
    have hjL : j ≤ L.length := by omega
    by_cases hlt : j < L.length
    · obtain ⟨x, hx⟩ : ∃ x, L[j] = x := ⟨_, rfl⟩
      have hxb : I64 x := hx ▸ HLB.out _ (List.getElem_mem hlt)
      obtain ⟨G, off, rfl, y0⟩ := Ma.row_at h (8 + l.length) c_last hlt
      rw [hx] at y0
      rw [List.drop_eq_getElem_cons hlt, hx] at ht
      unfold CS.partL at ht
      obtain ⟨M, hM⟩ : ∃ M, S'.noted x = M := ⟨_, rfl⟩
      have hnr := noted_row S' x
      rw [hM] at hnr ht
      obtain ⟨M1, M2⟩ := M
      obtain ⟨hn1, hn2, hn3⟩ := hnr
      simp only [] at hn1 hn2 hn3 ht
      have hrb2 : RB 900000000 S' := by unfold RB at hrb ⊢; omega
      have hwd : wrap64 (d + M1) = d + M1 := by unfold wrap64; omega
      have HT := Lib.hid ht
      have HM := Lib.hid hM
      have HS := Lib.hid h
      clear h ht hM hj hx
      go_wp2_with fail
      refine (noted_in (k := k.rw A m) x hxb hrb2 HS.out).mono ?_
      rintro e w3 ⟨rfl, A3, m3, h3⟩
      rw [HM.out] at h3 ⊢
      simp only [] at h3 ⊢
      have H3 := Lib.hid h3
      clear h3 HS y0
      go_wp2_with fail
      go_roundg (gk - 1)
      case measure => have := HJ.out; omega
      case rel => exact ⟨j + 1, d + M1, M2, A3, m3, by have := HJ.out; omega, by go_num, by first | rfl | rw [hwd], by omega, by omega, HT.out, by omega, H3.out⟩
    · have hj2 : j = L.length := by omega
      rw [hj2, List.drop_length] at ht
      have ht' : (d, S') = R := ht
      subst ht'
      have H1 := Lib.hid h
      clear h ht hj hj2
      go_wp2_with fail
      go_ret
      exact ⟨rfl, _, _, c_drop H1.out⟩
end
end Go.Proofs.YtihmkkjmnbehbaaGreat.Wh
/- The first one of the row; the row of the core. Condition: the row is not too long. -/
set_option linter.unusedVariables false
set_option linter.unusedSimpArgs false
namespace Go.Proofs.YtihmkkjmnbehbaaGreat.Wh
open Go.RowKit Go.Proofs.YtihmkkjmnbehbaaGreat.W Go.Proofs.YtihmkkjmnbehbaaGreat.Sm
section
variable {W w : World} {oo : Nat → Prop} {k : CK} {S : CS} {l : List Pr} {F : FuncId} {args : Array Value}
/-- The row's first one goes. -/
theorem c_row1 {a : Int} {r : List Int} (hr : S.row = a :: r) (h : SepO W oo w (cparts k S ++ l)) : ∃ G off A2, k.A = some ⟨G, off, none⟩ ∧ w.cell? ⟨G, off, none⟩ = some (i6 a) ∧
    (∀ W : World, (Instr.slice 53 (.slice k.A (r.length + 1) k.n) (some (.int .i64 1)) none none).run Tryz.prog W = .ok (.slice A2 r.length (k.n - 1)) W) ∧
    SepO W oo (w.setCell ⟨k.c, 25, none⟩ (.slice A2 r.length (k.n - 1))) (cparts (k.rw A2 (k.n - 1)) { S with row := r } ++ l) := by
  have h7 : (cparts k S ++ l)[7]? = some (rowP 3 k.A S.row.length k.n (S.row.map (Value.int .i64))) := rfl
  have e0 : S.row.length = r.length + 1 := by rw [hr]; rfl
  have e1 : S.row[0]'(by omega) = a := by simp [hr]
  obtain ⟨G, off, hA, hc⟩ := Ma.row_at (A := k.A) (c := k.n) (D := S.row) h 7 rfl (i := 0) (by omega)
  obtain ⟨o, hq, _⟩ := h.row 7 h7
  obtain ⟨i, hi, hz, hs, hby⟩ := info_parts info_int
  have hn := hq.2.1
  have ht := h.row_tail 7 h7 (by omega)
  have e2 : S.row.length - 1 = r.length := by omega
  have e3 : (S.row.map (Value.int .i64)).drop 1 = r.map (Value.int .i64) := by rw [hr]; rfl
  rw [e2, e3] at ht
  refine ⟨G, off, _, hA, by rw [← e1]; simpa using hc, fun W => ?_, c_row ht⟩
  exact run_cut1 Tryz.underlying53 hi hs k.A (r.length + 1) k.n (by omega) W
set_option maxHeartbeats 2000000 in
theorem row_in {a : Int} {r : List Int} (ha : I64 a) (hr : S.row = a :: r) (hrb : RB 900000000 S) (h : SepO W oo w (cparts k S ++ l)) : Calls Tryz.prog 125 #[pt k.c] w fun e w' =>
    e = .returned (.int .i64 (if S.o.has a = false then 1 else (CS.through { S with row := r } a).1)) ∧ ∃ A m, SepO W oo w' (cparts (k.rw A m) (if S.o.has a = false then { S with row := r } else (CS.through { S with row := r } a).2) ++ l) := by
  obtain ⟨_, ⟨_, _, _, _, _, _, c25⟩, hbl, hfr⟩ := c_at h
  have f25 := hfr 25
  obtain ⟨G, off, A2, hA, hc, hsl, h1⟩ := c_row1 hr h
  have e0 : S.row.length = r.length + 1 := by rw [hr]; rfl
  rw [e0] at c25
  have hrb2 : RB 900000000 { S with row := r } := by unfold RB at hrb ⊢; simp only []; omega
  rw [hA] at c25 hsl
  have H1 := Lib.hid h1
  have c15 := (c_at h1).1.2.2.1
  replace c15 : (w.setCell ⟨k.c, 25, none⟩ (.slice A2 r.length (k.n - 1))).cell? ⟨k.c, 15, none⟩ = some (pt k.o) := c15
  clear h h1 hfr hr e0 hA
  cases hh : S.o.has a
  · have HH := Lib.hid hh
    rw [if_pos rfl, if_pos rfl]
    clear hh
    go_enter Tryz.func125, Tryz.ntmps125
    go_wp2_with fail
    refine (oSize_in (k := k.rw A2 (k.n - 1)) a ha H1.out).mono ?_
    rintro e w1 ⟨rfl, h1⟩
    rw [show ({ S with row := r } : CS).o.has a = false from HH.out]
    have H2 := Lib.hid h1
    clear h1 H1
    go_wp2_with fail
    go_ret
    exact ⟨rfl, _, _, H2.out⟩
  · have HH := Lib.hid hh
    rw [if_neg (by simp), if_neg (by simp)]
    obtain ⟨M, hM⟩ : ∃ M, CS.through { S with row := r } a = M := ⟨_, rfl⟩
    rw [hM]
    have HM := Lib.hid hM
    clear hh hM
    go_enter Tryz.func125, Tryz.ntmps125
    go_wp2_with fail
    refine (oSize_in (k := k.rw A2 (k.n - 1)) a ha H1.out).mono ?_
    rintro e w1 ⟨rfl, h1⟩
    rw [show ({ S with row := r } : CS).o.has a = true from HH.out]
    have H2 := Lib.hid h1
    clear h1 H1
    go_wp2_with fail
    refine (through_in (k := k.rw A2 (k.n - 1)) a ha hrb2 H2.out).mono ?_
    rintro e w2 ⟨rfl, A, m, h2⟩
    rw [HM.out] at h2 ⊢
    have H3 := Lib.hid h2
    clear h2 H2
    go_wp2_with fail
    go_ret
    exact ⟨rfl, _, _, H3.out⟩
end
end Go.Proofs.YtihmkkjmnbehbaaGreat.Wh
/- The half is empty: the end of the minor cycle. Condition: the stack's places are numbers of 64 bits. -/
set_option linter.unusedVariables false
set_option linter.unusedSimpArgs false
namespace Go.Proofs.YtihmkkjmnbehbaaGreat.Wh
open Go.RowKit Go.Proofs.YtihmkkjmnbehbaaGreat.W Go.Proofs.YtihmkkjmnbehbaaGreat.Sm
def GB (S : CS) : Prop := ∀ x ∈ S.gl, I64 x
/-- A slice's elements, of one that is only read. -/
theorem slp_at {W w : World} {oo : Nat → Prop} {l : List Pr} {A : Option Addr} {c : Nat} {D : List Int} (h : SepO W oo w l) (k : Nat) (hk : l[k]? = some (SLp (.slice A D.length c) D)) {i : Nat} (hi : i < D.length) : ∃ G off, A = some ⟨G, off, none⟩ ∧ w.cell? ⟨G, off + i, none⟩ = some (.int .i64 D[i]) := by
  obtain ⟨o, h1, _⟩ := h.get k hk
  obtain ⟨A', c', e, _, h3⟩ := h1
  simp only [Value.slice.injEq, true_and] at e
  obtain ⟨rfl, rfl⟩ := e
  obtain ⟨G, off, rfl, _, _, h4⟩ := h3 (by omega)
  exact ⟨G, off, rfl, by rw [h4 i hi]; simp [hi]⟩
section
variable {W w : World} {oo : Nat → Prop} {k : CK} {S : CS} {l : List Pr} {F : FuncId} {args : Array Value}
theorem c_mv (v : Bool) (h : SepO W oo w (cparts k S ++ l)) : SepO W oo (w.setCell ⟨k.c, 21, none⟩ (.bool v)) (cparts k { S with mv := v } ++ l) := by
  have := h.set_blk (t := 57) (cs := ccells k S) (g := k.c) 0 rfl 21 (.bool v)
  have e : (ccells k S).setIfInBounds 21 (.bool v) = ccells k { S with mv := v } := by simp [ccells]
  rw [e] at this
  exact this
theorem c_scan (v : Int) (h : SepO W oo w (cparts k S ++ l)) : SepO W oo (w.setCell ⟨k.c, 22, none⟩ (i6 v)) (cparts k { S with scan := v } ++ l) := by
  have := h.set_blk (t := 57) (cs := ccells k S) (g := k.c) 0 rfl 22 (i6 v)
  have e : (ccells k S).setIfInBounds 22 (i6 v) = ccells k { S with scan := v } := by simp [ccells]
  rw [e] at this
  exact this
theorem c_look (v : Int) (h : SepO W oo w (cparts k S ++ l)) : SepO W oo (w.setCell ⟨k.c, 24, none⟩ (i6 v)) (cparts k { S with look := v } ++ l) := by
  have := h.set_blk (t := 57) (cs := ccells k S) (g := k.c) 0 rfl 24 (i6 v)
  have e : (ccells k S).setIfInBounds 24 (i6 v) = ccells k { S with look := v } := by simp [ccells]
  rw [e] at this
  exact this
theorem c_par (v : Int) (h : SepO W oo w (cparts k S ++ l)) : SepO W oo (w.setCell ⟨k.c, 19, none⟩ (i6 v)) (cparts k { S with par := v } ++ l) := by
  have := h.set_blk (t := 57) (cs := ccells k S) (g := k.c) 0 rfl 19 (i6 v)
  have e : (ccells k S).setIfInBounds 19 (i6 v) = ccells k { S with par := v } := by simp [ccells]
  rw [e] at this
  exact this
theorem c_ph (v : Int) (h : SepO W oo w (cparts k S ++ l)) : SepO W oo (w.setCell ⟨k.c, 20, none⟩ (i6 v)) (cparts k { S with ph := v } ++ l) := by
  have := h.set_blk (t := 57) (cs := ccells k S) (g := k.c) 0 rfl 20 (i6 v)
  have e : (ccells k S).setIfInBounds 20 (i6 v) = ccells k { S with ph := v } := by simp [ccells]
  rw [e] at this
  exact this
theorem c_mi (v : Int) (h : SepO W oo w (cparts k S ++ l)) : SepO W oo (w.setCell ⟨k.c, 29, none⟩ (i6 v)) (cparts k { S with d := { S.d with mi := v } } ++ l) := by
  have := h.set_blk (t := 57) (cs := ccells k S) (g := k.c) 0 rfl 29 (i6 v)
  have e : (ccells k S).setIfInBounds 29 (i6 v) = ccells k { S with d := { S.d with mi := v } } := by simp [ccells]
  rw [e] at this
  exact this
theorem c_ma (v : Int) (h : SepO W oo w (cparts k S ++ l)) : SepO W oo (w.setCell ⟨k.c, 30, none⟩ (i6 v)) (cparts k { S with d := { S.d with ma := v } } ++ l) := by
  have := h.set_blk (t := 57) (cs := ccells k S) (g := k.c) 0 rfl 30 (i6 v)
  have e : (ccells k S).setIfInBounds 30 (i6 v) = ccells k { S with d := { S.d with ma := v } } := by simp [ccells]
  rw [e] at this
  exact this
theorem gAll_in (h : SepO W oo w (cparts k S ++ l)) : Calls Tryz.prog 160 #[pt k.g] w fun e w' => ∃ A c, e = .returned (.slice A S.gl.length c) ∧ SepO W oo w' (cparts k S ++ (l ++ [SLp (.slice A S.gl.length c) S.gl])) := by
  obtain ⟨o, hp, _, _⟩ := h.open_ 5 rfl
  refine (Gy.All_calls w hp).mono fun e w' ⟨A, c, he, hs, hkk⟩ => ⟨A, c, he, ?_⟩
  rw [← List.append_assoc]
  exact h.add (P := SLp (.slice A S.gl.length c) S.gl) hkk hs
theorem tAll_in (h : SepO W oo w (cparts k S ++ l)) : Calls Tryz.prog 58 #[pt k.t] w fun e w' => ∃ A, e = .returned (.slice A S.tb.length S.tb.length) ∧ SepO W oo w' (cparts k S ++ (l ++ [SLp (.slice A S.tb.length S.tb.length) S.tb])) := by
  obtain ⟨o, hp, _, _⟩ := h.open_ 6 rfl
  refine (Tab.All_calls w hp).mono fun e w' ⟨A, he, hs, hkk⟩ => ⟨A, he, ?_⟩
  rw [← List.append_assoc]
  exact h.add (P := SLp (.slice A S.tb.length S.tb.length) S.tb) hkk hs
theorem gPut_in {A : Option Addr} {n : Nat} {L : List Int} (i : Nat) (hi : (cparts k S ++ l)[i]? = some (Ma.rowI8 A n L)) (h5 : 5 ≠ i) (h : SepO W oo w (cparts k S ++ l)) : Calls Tryz.prog 161 #[pt k.g, .slice A L.length n] w fun e w' =>
    e = .returned (.tuple #[]) ∧ SepO W oo w' (cparts k { S with gl := Gy.got L S.gm L.length, gz := S.gz || decide (S.gm < (L.length : Int)) } ++ l) := by
  obtain ⟨o, o', hp, hq, hd, _, _, hup⟩ := h.two 5 i rfl hi h5
  refine (Gy.Put_calls w hp (QR.sl hq) hd).mono ?_
  rintro e w' ⟨rfl, hr, hkk⟩
  exact ⟨rfl, hup w' (Gy.Stk k.g S.gm (Gy.got L S.gm L.length) (S.gz || decide (S.gm < (L.length : Int)))) hr hkk⟩
end
end Go.Proofs.YtihmkkjmnbehbaaGreat.Wh
/- The half is empty: the walk. Condition: the stack's places are numbers of 64 bits. -/
set_option linter.unusedVariables false
set_option linter.unusedSimpArgs false
namespace Go.Proofs.YtihmkkjmnbehbaaGreat.Wh
open Go.RowKit Go.Proofs.YtihmkkjmnbehbaaGreat.W Go.Proofs.YtihmkkjmnbehbaaGreat.Sm
section
variable {W w : World} {oo : Nat → Prop} {k : CK} {S : CS} {l : List Pr} {F : FuncId} {args : Array Value}
theorem yDrop_in (h : SepO W oo w (cparts k S ++ l)) : Calls Tryz.prog 162 #[pt k.y] w fun e w' => e = .returned (.bool (decide (0 < S.y.left))) ∧ SepO W oo w' (cparts k { S with y := S.y.drop } ++ l) := bmp_write h (fun o ho => Bp.Drop_calls w ho)
theorem drop_next {f : Int → Bool} {g : Int → Int} {O T V : List Int} {x : Int} (h : O ++ ((x :: T).map g).filter f = V) : (if f (g x) then O ++ [g x] else O) ++ (T.map g).filter f = V := by
  rw [← h, List.map_cons, List.filter_cons]
  split <;> simp
theorem c_app2 {P Q : Pr} (h : SepO W oo w (cparts k S ++ (l ++ [P]) ++ [Q])) : SepO W oo w (cparts k S ++ (l ++ [P, Q])) := by
  have e : cparts k S ++ (l ++ [P]) ++ [Q] = cparts k S ++ (l ++ [P, Q]) := by simp
  rw [← e]; exact h
theorem c_at2 {P Q : Pr} : (cparts k S ++ (l ++ [P, Q]))[9 + l.length]? = some Q := by
  rw [List.getElem?_append_right (by simp [cparts]; omega), List.getElem?_append_right (by simp [cparts]; omega)]
  have e : 9 + l.length - (cparts k S).length - l.length = 1 := by simp [cparts]; omega
  rw [e]; rfl
theorem c_at1 {P Q : Pr} : (cparts k S ++ (l ++ [P, Q]))[8 + l.length]? = some P := by
  rw [List.getElem?_append_right (by simp [cparts]), List.getElem?_append_right (by simp [cparts])]
  simp [cparts]
theorem c_set2 {P Q Q' : Pr} : (cparts k S ++ (l ++ [P, Q])).set (9 + l.length) Q' = cparts k S ++ (l ++ [P, Q']) := by
  rw [List.set_append_right _ _ (by simp [cparts]; omega), List.set_append_right _ _ (by simp [cparts]; omega)]
  have e : 9 + l.length - (cparts k S).length - l.length = 1 := by simp [cparts]; omega
  rw [e]; rfl
set_option maxRecDepth 20000 in
set_option maxHeartbeats 4000000 in
theorem finish_in (hg : GB S) (h : SepO W oo w (cparts k S ++ l)) : Calls Tryz.prog 130 #[pt k.c] w fun e w' => e = .returned (.tuple #[]) ∧ SepO W oo w' (cparts k S.finish ++ l) := by
  obtain ⟨⟨_, _, _, _, c17, _⟩, _, hbl, _⟩ := c_at h
  obtain ⟨i1, i2, i3, i4, i5⟩ := info_parts info_int
  have H := Lib.hid h
  obtain ⟨L, hL⟩ : ∃ L, (S.gl.map S.now).filter (fun t => !S.y.isFrom t) = L := ⟨_, rfl⟩
  have hF : S.finish = { S with gl := Gy.got L S.gm L.length, gz := S.gz || decide (S.gm < (L.length : Int)), y := S.y.drop, mv := false, cop := 0, d := { S.d with mi := wrap64 (S.d.mi + 1) } } := by unfold CS.finish; rw [hL]
  rw [hF]
  have hll : L.length ≤ S.gl.length := by rw [← hL]; exact Nat.le_trans (List.length_filter_le _ _) (by simp)
  have hgl : (S.gl.length : Int) ≤ 1048576 := by
    have := Gy.Stk_b h 5 rfl
    omega
  have HL := Lib.hid hL
  have HG := Lib.hid hg
  clear h hF hL hg
  go_enter Tryz.func130, Tryz.ntmps130
  go_wp2_with fail
  refine (gAll_in H.out).mono ?_
  rintro e w1 ⟨A1, n1, rfl, h1⟩
  have h1 := c_app2 (h1.nil_row 3)
  have H1 := Lib.hid h1
  clear h1 H
  go_wp2_with fail
  go_loopg [2, 4, 5, 12] S.gl.length (fun gk s2 s4 s5 n12 wr => ∃ (j : Nat) (A : Option Addr) (n : Nat) (O : List Int), j + gk = S.gl.length ∧ n12 = .int .i64 j ∧ s2 = .slice A O.length n ∧ O.length ≤ j ∧ O ++ ((S.gl.drop j).map S.now).filter (fun t => !S.y.isFrom t) = L ∧ SepO W oo wr (cparts k S ++ (l ++ [SLp (.slice A1 S.gl.length n1) S.gl, Ma.rowI8 A n O])))
  case atStart => exact ⟨0, none, 0, [], by omega, rfl, rfl, by simp, HL.out, H1.out⟩
  case round =>
    clear H1 HL
    obtain ⟨j, A, n, O, hj, rfl, rfl, hO, hv, h⟩ := hrel
    have HJ := Lib.hid hj
    have hjL : j ≤ S.gl.length := by omega
    clear hj
    by_cases hlt : j < S.gl.length
    · obtain ⟨x, hx⟩ : ∃ x, S.gl[j] = x := ⟨_, rfl⟩
      have hxb : I64 x := hx ▸ HG.out _ (List.getElem_mem hlt)
      obtain ⟨G, off, rfl, y0⟩ := slp_at h (8 + l.length) c_at1 hlt
      rw [hx] at y0
      rw [List.drop_eq_getElem_cons hlt, hx] at hv
      have hv := drop_next hv
      obtain ⟨q, hq⟩ : ∃ q, S.now x = q := ⟨_, rfl⟩
      have hqb : I64 q := hq ▸ now_b S hxb
      rw [hq] at hv
      have HQ := Lib.hid hq
      obtain ⟨f, hf⟩ : ∃ f, S.y.isFrom q = f := ⟨_, rfl⟩
      rw [hf] at hv
      have HF := Lib.hid hf
      have HV := Lib.hid hv
      have HS := Lib.hid h
      clear h hv hq hf hx
      go_wp2_with fail
      refine (Now_in x hxb HS.out).mono ?_
      rintro e w3 ⟨rfl, h3⟩
      rw [HQ.out]
      have c14 := (c_at h3).1.2.1
      have hbl3 := (c_at h3).2.2.1
      have H3 := Lib.hid h3
      clear h3 HS y0
      go_wp2_with fail
      refine (bmp_read H3.out (fun o ho => Bp.From_calls q w3 ho hqb.2)).mono ?_
      rintro e w4 ⟨rfl, h4⟩
      rw [HF.out]
      cases f
      · have hc1 : (w4.alloc (.cells #[.int .i64 q] 3)).cell? ⟨w4.heap.size, 0, none⟩ = some (.int .i64 q) := by
          have := (Blk.new w4 3 #[.int .i64 q]).cell 0
          exact this
        have H4 := Lib.hid h4
        have HC1 := Lib.hid hc1
        clear h4 H3 hc1 c14 hbl3
        go_wp2_with (at_builtin; refine wpList_append_sep rfl _ _ 53 rfl 3 i1 (.int .i64 0) 8 Tryz.underlying53 i2 i3 i4 i5 rfl A O.length n (O.map (Value.int .i64)) rfl w4.heap.size (.int .i64 q) rfl (H4.out.alloc (.cells #[.int .i64 q] 3)) (9 + l.length) c_at2 HC1.out rfl ?c2 ?c3 ?_)
        case c2 => omega
        case c3 => omega
        intro A2 n2 w5 h5
        rw [c_set2] at h5
        have e1 : (O ++ [q]).length = O.length + 1 := by simp
        have h5 : SepO W oo w5 (cparts k S ++ (l ++ [SLp (.slice (some ⟨G, off, none⟩) S.gl.length n1) S.gl, Ma.rowI8 A2 n2 (O ++ [q])])) := by
          unfold Ma.rowI8
          rw [e1, List.map_append]; exact h5
        have H5 := Lib.hid h5
        clear h5 H4
        go_wp2_with fail
        go_roundg (gk - 1)
        case measure => have := HJ.out; omega
        case rel => exact ⟨j + 1, A2, n2, O ++ [q], by have := HJ.out; omega, by go_num, by rw [e1], by rw [e1]; omega, by have := HV.out; simpa using this, H5.out⟩
      · have H4 := Lib.hid h4
        clear h4 H3 c14 hbl3
        go_wp2_with fail
        go_roundg (gk - 1)
        case measure => have := HJ.out; omega
        case rel => exact ⟨j + 1, A, n, O, by have := HJ.out; omega, by go_num, rfl, by omega, by have := HV.out; simpa using this, H4.out⟩
    · have hj2 : j = S.gl.length := by omega
      rw [hj2, List.drop_length] at hv
      have hv : O = L := by simpa using hv
      subst hv
      obtain ⟨⟨_, _, _, _, d17, _⟩, _, dbl, _⟩ := c_at h
      have H1 := Lib.hid h
      clear h hj2
      go_wp2_with fail
      refine (gPut_in (9 + l.length) c_at2 (by omega) H1.out).mono ?_
      rintro e w6 ⟨rfl, h6⟩
      obtain ⟨⟨_, e14, _⟩, _, ebl, _⟩ := c_at h6
      have h6 := c_drop h6
      have H6 := Lib.hid h6
      clear h6 H1 d17 dbl
      go_wp2_with fail
      refine (yDrop_in H6.out).mono ?_
      rintro e w7 ⟨rfl, h7⟩
      have g29 : w7.cell? ⟨k.c, 29, none⟩ = some (i6 S.d.mi) := (c_blk h7).cell 29
      obtain ⟨_, _, gbl, gfr⟩ := c_at h7
      have f21 := gfr 21
      have f23 := gfr 23
      have f29 := gfr 29
      have h8 := c_mi (wrap64 (S.d.mi + 1)) (c_cop 0 (c_mv false h7))
      have H8 := Lib.hid h8
      clear h7 h8 H6 e14 ebl gfr
      go_wp2_with fail
      go_end0
      exact ⟨rfl, H8.out⟩
end
end Go.Proofs.YtihmkkjmnbehbaaGreat.Wh
