/- Texts of the whole heap, joined: WqA WqO. No condition beside those that each lemma names. -/
import Derived.Test.YtihmkkjmnbehbaaGreatMg16
import Derived.Test.YtihmkkjmnbehbaaGreatMg21
import Derived.Test.YtihmkkjmnbehbaaGreatMg22
/- Objects of the heap's arena, as a map from places. No condition. -/
set_option linter.unusedVariables false
set_option linter.unusedSimpArgs false
namespace Go.Proofs.YtihmkkjmnbehbaaGreat.Wh
open Go.RowKit Go.Proofs.YtihmkkjmnbehbaaGreat.W
/-- An object: its head, where it is now, its fields; and which node it stands for. -/
structure OR where
  hd : Hd
  way : Int
  fl : List Int
  id : Nat
abbrev Mp := Int → Option OR
/-- Its words, a field. -/
def OR.n (o : OR) : Int := o.hd.size + 2
def OR.f (o : OR) (i : Nat) : Int := o.fl[i]?.getD 0
def upM (m : Mp) (a : Int) (o : OR) : Mp := fun b => if b = a then some o else m b
theorem upM_self (m : Mp) (a : Int) (o : OR) : upM m a o a = some o := if_pos rfl
theorem upM_ne (m : Mp) {a b : Int} (o : OR) (h : b ≠ a) : upM m a o b = m b := if_neg h
theorem inn_iff {ws : List Int} {a : Int} : Ob.inn ws a = true ↔ 0 ≤ a ∧ a < ws.length := by
  unfold Ob.inn; rw [Ar.within_iff]; omega
theorem ld_set {ws : List Int} {a : Int} (x : Int) (h0 : 0 ≤ a) (h1 : a < ws.length) (b : Int) : Ob.ldW (ws.set a.toNat x) b = if b = a then x else Ob.ldW ws b := by
  unfold Ob.ldW
  by_cases hb : Ob.inn ws b = true
  · have hb' : Ob.inn (ws.set a.toNat x) b = true := by rw [inn_iff] at hb ⊢; simpa using hb
    rw [if_pos hb, if_pos hb']
    rw [inn_iff] at hb
    by_cases e : b = a
    · subst e; rw [if_pos rfl, List.getElem?_set_self (by omega)]; rfl
    · rw [if_neg e, List.getElem?_set_ne (by omega)]
  · have hb' : ¬ Ob.inn (ws.set a.toNat x) b = true := by rw [inn_iff] at hb ⊢; simpa using hb
    rw [if_neg hb, if_neg hb', if_neg]
    rintro rfl
    exact hb (inn_iff.2 ⟨h0, h1⟩)
theorem st_eq {ws : List Int} {a : Int} (x : Int) (h0 : 0 ≤ a) (h1 : a < ws.length) : Ob.stW ws a x = ws.set a.toNat x := if_pos (inn_iff.2 ⟨h0, h1⟩)
theorem ld_st {ws : List Int} {a : Int} (x : Int) (h0 : 0 ≤ a) (h1 : a < ws.length) (b : Int) : Ob.ldW (Ob.stW ws a x) b = if b = a then x else Ob.ldW ws b := by
  rw [st_eq x h0 h1]; exact ld_set x h0 h1 b
theorem ld_zro {ws : List Int} {a k : Int} (h0 : 0 ≤ a) (hk : 0 ≤ k) (h1 : a + k ≤ ws.length) (b : Int) : Ob.ldW (Ar.zro ws a.toNat k.toNat) b = if a ≤ b ∧ b < a + k then 0 else Ob.ldW ws b := by
  have hl := Ar.zro_len (ws := ws) (i := a.toNat) (k := k.toNat) (by omega)
  unfold Ob.ldW
  by_cases hb : Ob.inn ws b = true
  · have hb' : Ob.inn (Ar.zro ws a.toNat k.toNat) b = true := by rw [inn_iff] at hb ⊢; rw [hl]; exact hb
    rw [if_pos hb, if_pos hb']
    rw [inn_iff] at hb
    rw [Ar.zro_get (by omega)]
    by_cases e : a ≤ b ∧ b < a + k
    · rw [if_pos e, if_pos (by omega)]; rfl
    · rw [if_neg e, if_neg (by omega)]
  · have hb' : ¬ Ob.inn (Ar.zro ws a.toNat k.toNat) b = true := by rw [inn_iff] at hb ⊢; rw [hl]; exact hb
    rw [if_neg hb, if_neg hb']
    rw [inn_iff] at hb
    rw [if_neg (by omega)]
theorem ld_cpy {ws : List Int} {a c k : Int} (h0 : 0 ≤ a) (c0 : 0 ≤ c) (hk : 0 ≤ k) (h1 : a + k ≤ ws.length) (c1 : c + k ≤ ws.length) (b : Int) : Ob.ldW (Ar.cpy ws a.toNat c.toNat k.toNat) b = if c ≤ b ∧ b < c + k then Ob.ldW ws (a + (b - c)) else Ob.ldW ws b := by
  have hl := Ar.cpy_len (ws := ws) (i := a.toNat) (j := c.toNat) (k := k.toNat) (by omega) (by omega)
  by_cases hb : Ob.inn ws b = true
  · have hb' : Ob.inn (Ar.cpy ws a.toNat c.toNat k.toNat) b = true := by rw [inn_iff] at hb ⊢; rw [hl]; exact hb
    have hb2 := inn_iff.1 hb
    have e1 : Ob.ldW (Ar.cpy ws a.toNat c.toNat k.toNat) b = (Ar.cpy ws a.toNat c.toNat k.toNat)[b.toNat]?.getD 0 := if_pos hb'
    have e2 : Ob.ldW ws b = ws[b.toNat]?.getD 0 := if_pos hb
    rw [e1, e2, Ar.cpy_get (by omega) (by omega)]
    by_cases e : c ≤ b ∧ b < c + k
    · rw [if_pos e, if_pos (by omega)]
      have hi : Ob.inn ws (a + (b - c)) = true := inn_iff.2 (by omega)
      have e3 : Ob.ldW ws (a + (b - c)) = ws[(a + (b - c)).toNat]?.getD 0 := if_pos hi
      rw [e3]
      congr 2
      omega
    · rw [if_neg e, if_neg (by omega)]
  · have hb' : ¬ Ob.inn (Ar.cpy ws a.toNat c.toNat k.toNat) b = true := by rw [inn_iff] at hb ⊢; rw [hl]; exact hb
    have e1 : Ob.ldW (Ar.cpy ws a.toNat c.toNat k.toNat) b = 0 := if_neg hb'
    have e2 : Ob.ldW ws b = 0 := if_neg hb
    rw [e1, e2]
    rw [inn_iff] at hb
    rw [if_neg (by omega)]
/-- An object stands in the words at a place. -/
structure OAt (ws : List Int) (a : Int) (o : OR) : Prop where
  a0 : 1 ≤ a
  good : o.hd.good
  len : (o.fl.length : Int) = o.hd.size
  fit : a + o.n ≤ ws.length
  hd : Ob.ldW ws a = o.hd.word
  way : Ob.ldW ws (a + 1) = o.way
  w0 : 1 ≤ o.way
  w1 : o.way ≤ ws.length
  fl : ∀ i : Nat, i < o.fl.length → Ob.ldW ws (a + 2 + i) = o.f i
structure Rep (ws : List Int) (m : Mp) : Prop where
  at_ : ∀ a o, m a = some o → OAt ws a o
  apart : ∀ a b o p, m a = some o → m b = some p → a < b → a + o.n ≤ b
  len : ws.length ≤ 1048576
theorem OAt.n2 {ws : List Int} {a : Int} {o : OR} (h : OAt ws a o) : 2 ≤ o.n ∧ o.n ≤ 66 := by
  have := h.good; unfold Hea.Hd.good at this; unfold OR.n; omega
theorem OAt.words {ws : List Int} {a : Int} {o : OR} (h : OAt ws a o) : Ob.wordsOf o.hd = o.n := Ob.wordsOf_good h.good
theorem OAt.hdAt {ws : List Int} {a : Int} {o : OR} (h : OAt ws a o) : Ob.hdAt ws a = o.hd := by
  unfold Ob.hdAt; rw [h.hd, Hea.hdOf_word h.good]
theorem placeOf_ok {a n : Int} (h0 : 0 ≤ a) (h1 : a ≤ 1048576) (n0 : 0 ≤ n) (n1 : n < 64) : Ob.placeOf a n = a + 2 + n := if_pos (by simp [Ob.okAt]; omega)
theorem OAt.place {ws : List Int} {a : Int} {o : OR} (h : OAt ws a o) (hl : ws.length ≤ 1048576) {n : Int} (n0 : 0 ≤ n) (n1 : n < o.hd.size) : Ob.placeOf a n = a + 2 + n := by
  have := h.a0; have := h.fit; have := h.n2; have hg := h.good; unfold Hea.Hd.good at hg
  exact placeOf_ok (by omega) (by omega) n0 (by omega)
theorem OAt.fld {ws : List Int} {a : Int} {o : OR} (h : OAt ws a o) (hl : ws.length ≤ 1048576) {n : Int} (n0 : 0 ≤ n) (n1 : n < o.hd.size) : Ob.ldW ws (Ob.placeOf a n) = o.f n.toNat := by
  rw [h.place hl n0 n1, ← h.fl n.toNat (by have := h.len; omega)]
  congr 1; omega
/-- Words that lie elsewhere do not matter. -/
theorem OAt.keep {ws ws' : List Int} {a : Int} {o : OR} (h : OAt ws a o) (hl : ws'.length = ws.length) (hs : ∀ b, a ≤ b → b < a + o.n → Ob.ldW ws' b = Ob.ldW ws b) : OAt ws' a o := by
  obtain ⟨n2, _⟩ := h.n2
  have hln := h.len
  refine ⟨h.a0, h.good, h.len, by rw [hl]; exact h.fit, ?_, ?_, h.w0, by rw [hl]; exact h.w1, fun i hi => ?_⟩
  · rw [hs a (by omega) (by omega)]; exact h.hd
  · rw [hs (a + 1) (by omega) (by omega)]; exact h.way
  · rw [hs (a + 2 + i) (by omega) (by unfold OR.n; omega)]; exact h.fl i hi
section
variable {ws : List Int} {m : Mp} {a : Int} {o : OR}
theorem Rep.disj (h : Rep ws m) (ha : m a = some o) {b : Int} {p : OR} (hb : m b = some p) (e : a ≠ b) : a + o.n ≤ b ∨ b + p.n ≤ a := by
  rcases Int.lt_or_gt_of_ne e with e | e
  · exact .inl (h.apart a b o p ha hb e)
  · exact .inr (h.apart b a p o hb ha e)
/-- One object changes, its words alone do. -/
theorem Rep.one (h : Rep ws m) (ha : m a = some o) {ws' : List Int} {o' : OR} (hl : ws'.length = ws.length) (hn : o'.n = o.n) (h' : OAt ws' a o') (hs : ∀ b, ¬ (a ≤ b ∧ b < a + o.n) → Ob.ldW ws' b = Ob.ldW ws b) : Rep ws' (upM m a o') := by
  refine ⟨fun b p hb => ?_, fun b c p q hb hc hbc => ?_, by rw [hl]; exact h.len⟩
  · by_cases e : b = a
    · subst e; rw [upM_self] at hb; cases hb; exact h'
    · rw [upM_ne m o' e] at hb
      have hd := h.disj ha hb (Ne.symm e)
      exact (h.at_ b p hb).keep hl (fun c c0 c1 => hs c (by omega))
  · by_cases e : b = a
    · subst e
      rw [upM_self] at hb; cases hb
      rw [upM_ne m o' (by omega)] at hc
      rw [hn]
      exact h.apart b c o q ha hc hbc
    · rw [upM_ne m o' e] at hb
      by_cases e2 : c = a
      · subst e2; exact h.apart b c p o hb ha hbc
      · rw [upM_ne m o' e2] at hc
        exact h.apart b c p q hb hc hbc
theorem Rep.hd (h : Rep ws m) (ha : m a = some o) {k : Hd} (hg : k.good) (hk : k.size = o.hd.size) : Rep (shW ws a k) (upM m a { o with hd := k }) ∧ (shW ws a k).length = ws.length := by
  have H := h.at_ a o ha
  have n2 := H.n2; have a0 := H.a0; have hf := H.fit
  have e : shW ws a k = ws.set a.toNat k.word := by unfold shW; rw [if_pos hg, st_eq _ (by omega) (by omega)]
  have ld := ld_set (ws := ws) (a := a) k.word (by omega) (by omega)
  rw [e]
  refine ⟨h.one ha (by simp) (by unfold OR.n; rw [← hk]) ⟨a0, hg, by rw [hk]; exact H.len, ?_, ?_, ?_, H.w0, by simpa using H.w1, fun i hi => ?_⟩ (fun b hb => ?_), by simp⟩
  · simp only [List.length_set]; unfold OR.n at hf ⊢; rw [hk]; exact hf
  · rw [ld, if_pos rfl]
  · rw [ld, if_neg (by omega)]; exact H.way
  · rw [ld, if_neg (by omega)]; exact H.fl i hi
  · rw [ld, if_neg (by omega)]
theorem Rep.set (h : Rep ws m) (ha : m a = some o) {n : Int} (n0 : 0 ≤ n) (n1 : n < o.hd.size) (v : Int) : Rep (Ob.stW ws (Ob.placeOf a n) v) (upM m a { o with fl := o.fl.set n.toNat v }) ∧ (Ob.stW ws (Ob.placeOf a n) v).length = ws.length := by
  have H := h.at_ a o ha
  have n2 := H.n2; have a0 := H.a0; have hf := H.fit; have hl := H.len
  unfold OR.n at hf n2
  have e := H.place h.len n0 n1
  have e1 := st_eq (ws := ws) (a := a + 2 + n) v (by omega) (by omega)
  have ld := ld_set (ws := ws) (a := a + 2 + n) v (by omega) (by omega)
  rw [e, e1]
  refine ⟨h.one ha (by simp) rfl ⟨a0, H.good, by simpa using hl, by rw [List.length_set]; exact H.fit, ?_, ?_, H.w0, by simpa using H.w1, fun i hi => ?_⟩ (fun b hb => ?_), by simp⟩
  · rw [ld, if_neg (by omega)]; exact H.hd
  · rw [ld, if_neg (by omega)]; exact H.way
  · simp only [List.length_set] at hi
    rw [ld]
    show _ = (o.fl.set n.toNat v)[i]?.getD 0
    by_cases ei : i = n.toNat
    · subst ei
      rw [if_pos (by omega), List.getElem?_set_self hi]; rfl
    · rw [if_neg (by omega), List.getElem?_set_ne (by omega)]; exact H.fl i hi
  · unfold OR.n at hb
    rw [ld, if_neg (by omega)]
/-- A new object at a place where there is none. -/
theorem Rep.new (h : Rep ws m) {b : Int} {ws' : List Int} {o' : OR} (hl : ws'.length = ws.length) (h' : OAt ws' b o') (hd : ∀ c p, m c = some p → c + p.n ≤ b ∨ b + o'.n ≤ c) (hs : ∀ c, ¬ (b ≤ c ∧ c < b + o'.n) → Ob.ldW ws' c = Ob.ldW ws c) : Rep ws' (upM m b o') := by
  have n2 := h'.n2
  refine ⟨fun c p hc => ?_, fun c d p q hc hd' hcd => ?_, by rw [hl]; exact h.len⟩
  · by_cases e : c = b
    · subst e; rw [upM_self] at hc; cases hc; exact h'
    · rw [upM_ne m o' e] at hc
      have hd := hd c p hc
      exact (h.at_ c p hc).keep hl (fun c c0 c1 => hs c (by omega))
  · by_cases e : c = b
    · subst e
      rw [upM_self] at hc; cases hc
      rw [upM_ne m o' (by omega)] at hd'
      have h1 := hd d q hd'
      have h2 := (h.at_ d q hd').n2
      omega
    · rw [upM_ne m o' e] at hc
      by_cases e2 : d = b
      · subst e2
        rw [upM_self] at hd'; cases hd'
        have h1 := hd c p hc
        omega
      · rw [upM_ne m o' e2] at hd'
        exact h.apart c d p q hc hd' hcd
theorem Rep.free (h : Rep ws m) {b : Int} {k : Int} (hk : 0 < k) (hd : ∀ c p, m c = some p → c + p.n ≤ b ∨ b + k ≤ c) : m b = none := by
  cases hb : m b with
  | none => rfl
  | some p =>
    have := hd b p hb
    have := (h.at_ b p hb).n2
    omega
theorem Rep.make (h : Rep ws m) {b : Int} {k : Hd} (hg : k.good) (b0 : 1 ≤ b) (b1 : b + (k.size + 2) ≤ ws.length) (hd : ∀ c p, m c = some p → c + p.n ≤ b ∨ b + (k.size + 2) ≤ c) (i : Nat) :
    Rep (Ob.mkW ws b k) (upM m b ⟨k, b, List.replicate k.size.toNat 0, i⟩) ∧ (Ob.mkW ws b k).length = ws.length := by
  have hg' := hg; unfold Hea.Hd.good at hg'
  have e : Ob.mkW ws b k = ((Ar.zro ws b.toNat (k.size + 2).toNat).set b.toNat k.word).set (b + 1).toNat b := by
    unfold Ob.mkW; rw [if_pos hg, if_pos (Ar.within_yes (by omega))]
  have hz := Ar.zro_len (ws := ws) (i := b.toNat) (k := (k.size + 2).toNat) (by omega)
  have ld : ∀ c, Ob.ldW (Ob.mkW ws b k) c = if c = b + 1 then b else if c = b then k.word else if b ≤ c ∧ c < b + (k.size + 2) then 0 else Ob.ldW ws c := fun c => by
    rw [e, ld_set b (by omega) (by rw [List.length_set]; omega), ld_set k.word (by omega) (by omega), ld_zro (by omega) (by omega) b1]
  have hl : (Ob.mkW ws b k).length = ws.length := by rw [e, List.length_set, List.length_set, hz]
  refine ⟨h.new hl ⟨b0, hg, by simp; omega, by rw [hl]; exact b1, ?_, ?_, b0, by rw [hl]; show b ≤ _; omega, fun j hj => ?_⟩ hd (fun c hc => ?_), hl⟩
  · show Ob.ldW _ b = k.word
    rw [ld, if_neg (by omega), if_pos rfl]
  · show Ob.ldW _ (b + 1) = b
    rw [ld, if_pos rfl]
  · simp at hj
    rw [ld, if_neg (by omega), if_neg (by omega), if_pos (by omega)]
    unfold OR.f
    simp only [List.getElem?_replicate]
    rw [if_pos (by omega)]; rfl
  · unfold OR.n at hc
    simp only at hc
    rw [ld, if_neg (by omega), if_neg (by omega), if_neg hc]
theorem Rep.move (h : Rep ws m) (ha : m a = some o) {b : Int} {k : Hd} (hg : k.good) (hk : k.size = o.hd.size) (b0 : 1 ≤ b) (b1 : b + o.n ≤ ws.length) (hd : ∀ c p, m c = some p → c + p.n ≤ b ∨ b + o.n ≤ c) :
    Rep (Ob.mvW ws a b k) (upM (upM m b { o with hd := k, way := b }) a { o with way := b }) ∧ (Ob.mvW ws a b k).length = ws.length := by
  have hg' := hg; unfold Hea.Hd.good at hg'
  have H := h.at_ a o ha
  have n2 := H.n2; have a0 := H.a0; have hf := H.fit; have hln := H.len
  have hab := hd a o ha
  have en : o.n = k.size + 2 := by unfold OR.n; rw [hk]
  have e : Ob.mvW ws a b k = (((Ar.cpy ws a.toNat b.toNat (k.size + 2).toNat).set b.toNat k.word).set (b + 1).toNat b).set (a + 1).toNat b := by
    unfold Ob.mvW; rw [if_pos hg, if_pos (by rw [Bool.and_eq_true]; exact ⟨Ar.within_yes (by omega), Ar.within_yes (by omega)⟩)]
  have hz := Ar.cpy_len (ws := ws) (i := a.toNat) (j := b.toNat) (k := (k.size + 2).toNat) (by omega) (by omega)
  have ld : ∀ c, Ob.ldW (Ob.mvW ws a b k) c = if c = a + 1 then b else if c = b + 1 then b else if c = b then k.word else if b ≤ c ∧ c < b + (k.size + 2) then Ob.ldW ws (a + (c - b)) else Ob.ldW ws c := fun c => by
    rw [e, ld_set b (by omega) (by rw [List.length_set, List.length_set]; omega), ld_set b (by omega) (by rw [List.length_set]; omega), ld_set k.word (by omega) (by omega), ld_cpy (by omega) (by omega) (by omega) (by omega) (by omega)]
  have hl : (Ob.mvW ws a b k).length = ws.length := by rw [e, List.length_set, List.length_set, List.length_set, hz]
  have ne : a ≠ b := by omega
  have R1 : Rep (((Ar.cpy ws a.toNat b.toNat (k.size + 2).toNat).set b.toNat k.word).set (b + 1).toNat b) (upM m b { o with hd := k, way := b }) := by
    have ld1 : ∀ c, Ob.ldW (((Ar.cpy ws a.toNat b.toNat (k.size + 2).toNat).set b.toNat k.word).set (b + 1).toNat b) c = if c = b + 1 then b else if c = b then k.word else if b ≤ c ∧ c < b + (k.size + 2) then Ob.ldW ws (a + (c - b)) else Ob.ldW ws c := fun c => by
      rw [ld_set b (by omega) (by rw [List.length_set]; omega), ld_set k.word (by omega) (by omega), ld_cpy (by omega) (by omega) (by omega) (by omega) (by omega)]
    have hl1 : (((Ar.cpy ws a.toNat b.toNat (k.size + 2).toNat).set b.toNat k.word).set (b + 1).toNat b).length = ws.length := by rw [List.length_set, List.length_set, hz]
    refine h.new hl1 ⟨b0, hg, by rw [hk]; exact hln, by rw [hl1]; unfold OR.n; simp only; omega, ?_, ?_, b0, by rw [hl1]; show b ≤ _; omega, fun j hj => ?_⟩ (fun c p hc => by have := hd c p hc; unfold OR.n at this ⊢; simp only; rw [hk]; exact this) (fun c hc => ?_)
    · rw [ld1, if_neg (by omega), if_pos rfl]
    · rw [ld1, if_pos rfl]
    · simp only at hj
      rw [ld1, if_neg (by omega), if_neg (by omega), if_pos (by omega), show a + (b + 2 + (j : Int) - b) = a + 2 + j by omega]
      exact H.fl j hj
    · unfold OR.n at hc
      simp only at hc
      rw [ld1, if_neg (by omega), if_neg (by omega), if_neg hc]
  have ha1 : upM m b { o with hd := k, way := b } a = some o := by rw [upM_ne _ _ ne]; exact ha
  have H1 := R1.at_ a o ha1
  rw [e]
  refine ⟨R1.one ha1 (by simp) rfl ⟨a0, H.good, hln, by rw [List.length_set]; exact H1.fit, ?_, ?_, b0, ?_, fun j hj => ?_⟩ (fun c hc => ?_), by rw [← e]; exact hl⟩
  · rw [ld_set b (by omega) (by rw [List.length_set, List.length_set]; omega), if_neg (by omega)]; exact H1.hd
  · rw [ld_set b (by omega) (by rw [List.length_set, List.length_set]; omega), if_pos rfl]
  · rw [List.length_set, List.length_set, List.length_set, hz]; show b ≤ _; omega
  · rw [ld_set b (by omega) (by rw [List.length_set, List.length_set]; omega), if_neg (by omega)]; exact H1.fl j hj
  · rw [ld_set b (by omega) (by rw [List.length_set, List.length_set]; omega), if_neg (by omega)]
theorem Rep.sub (h : Rep ws m) {m' : Mp} (hs : ∀ a o, m' a = some o → m a = some o) : Rep ws m' :=
  ⟨fun a o ha => h.at_ a o (hs a o ha), fun a b o p ha hb => h.apart a b o p (hs a o ha) (hs b p hb), h.len⟩
end
end Go.Proofs.YtihmkkjmnbehbaaGreat.Wh
/- What is in use in the mature space, by places; which of it is to be swept. No condition. -/
set_option linter.unusedVariables false
set_option linter.unusedSimpArgs false
namespace Go.Proofs.YtihmkkjmnbehbaaGreat.Ma
open Go.RowKit Go.Proofs.YtihmkkjmnbehbaaGreat.W Go.Proofs.YtihmkkjmnbehbaaGreat.Cl
/-- What is in use at a place lies on a page that is to be swept. -/
def pendAt (s : MS) (x : Int) : Prop := ∃ i k p, Use s x i k p ∧ p.pend = true
/-- It lies on that page. -/
def onPg (s : MS) (x : Int) (n : Nat) : Prop := ∃ k p, Use s x n k p
section
variable {s : MS}
theorem has_apart (hs : SI s) {x y : Int} (hx : s.has x = true) (hy : s.has y = true) (e : x ≠ y) : x + s.size x ≤ y ∨ y + s.size y ≤ x := by
  obtain ⟨i, k, p, hu, e1⟩ := has_use hs.ok hx
  obtain ⟨j, m, q, hv, e2⟩ := has_use hs.ok hy
  rw [e1, e2]; exact use_apart hs hu hv e
theorem has_in (hs : SI s) {x : Int} (hx : s.has x = true) : s.f ≤ x ∧ x + s.size x ≤ s.f + s.l.length * s.w ∧ 1 ≤ s.size x := by
  obtain ⟨i, k, p, hu, e1⟩ := has_use hs.ok hx
  have h1 := use_end hs.ok hu
  have h2 := use_in hs.ok hu
  rw [e1]; exact ⟨h1.1, h1.2, h2.2.1⟩
structure TakeHas (s s' : MS) (a x : Int) : Prop where
  si : SI s'
  f : s'.f = s.f
  w : s'.w = s.w
  len : s'.l.length = s.l.length
  no : s.has a = false
  yes : s'.has a = true
  big : x ≤ 1099511627776 → x ≤ s'.size a
  iff : ∀ y, s'.has y = true ↔ y = a ∨ s.has y = true
  size : ∀ y, s.has y = true → s'.size y = s.size y
  pend : ∀ y, pendAt s y → pendAt s' y
theorem take_has (hs : SI s) {x : Int} (hx : x ≤ 9223372036854775807) {a : Int} (h : s.took x = some a) : TakeHas s (s.take x) a x := by
  have t := take_spec hs hx h
  obtain ⟨i, k, p, hu, hsz, _⟩ := t.new
  have es := use_size t.si.ok hu
  have yes : (s.take x).has a = true := (has_iff t.si.ok).2 ⟨i, k, p, hu⟩
  refine ⟨t.si, t.f, t.w, t.len, ?_, yes, fun h => by rw [es, t.w]; exact hsz h, fun y => ?_, fun y hy => ?_, ?_⟩
  · cases ha : s.has a with
    | false => rfl
    | true =>
      obtain ⟨j, m, q, hv⟩ := (has_iff hs.ok).1 ha
      exact ((t.old _ _ _ _ hv).1 rfl).elim
  · constructor
    · intro hy
      obtain ⟨j, m, q, hv⟩ := (has_iff t.si.ok).1 hy
      rcases t.only _ _ _ _ hv with e | ⟨q', hq⟩
      · exact .inl e
      · exact .inr ((has_iff hs.ok).2 ⟨j, m, q', hq⟩)
    · rintro (rfl | hy)
      · exact yes
      · obtain ⟨j, m, q, hv⟩ := (has_iff hs.ok).1 hy
        obtain ⟨_, q', hq, _⟩ := t.old _ _ _ _ hv
        exact (has_iff t.si.ok).2 ⟨j, m, q', hq⟩
  · obtain ⟨j, m, q, hv⟩ := (has_iff hs.ok).1 hy
    obtain ⟨_, q', hq, e⟩ := t.old _ _ _ _ hv
    rw [use_size t.si.ok hq, use_size hs.ok hv, t.w, e]
  · rintro y ⟨j, m, q, hv, hp⟩
    obtain ⟨_, q', hq, _⟩ := t.old _ _ _ _ hv
    have hh := t.held j q hv.1 (by rcases hv.2 with h | h <;> omega) (fun _ => hp)
    rw [hq.1] at hh; cases hh
    exact ⟨j, m, _, hq, hp⟩
structure GiveHas (s s' : MS) (a : Int) : Prop where
  si : SI s'
  f : s'.f = s.f
  w : s'.w = s.w
  len : s'.l.length = s.l.length
  iff : ∀ y, s'.has y = true ↔ y ≠ a ∧ s.has y = true
  size : ∀ y, s'.has y = true → s'.size y = s.size y
  pend : ∀ y, pendAt s y → y ≠ a → pendAt s' y
  pg : ∀ y n, onPg s' y n → onPg s y n
theorem give_pend (hs : SI s) {a : Int} {i k : Nat} {p : Pg} (hu : Use s a i k p) {y : Int} {j m : Nat} {q q' : Pg} (hv : Use s y j m q) (hv' : Use (s.give a) y j m q') : q'.pend = q.pend := by
  have h1 := hv'.1
  have nf : q' ≠ fre := by rintro rfl; rcases hv'.2 with ⟨h, _⟩ | ⟨h, _⟩ <;> exact absurd h (by decide)
  unfold MS.give giveR at h1
  simp only [use_at hs.ok hu, hu.1] at h1
  split at h1
  · rename_i hk
    obtain ⟨_, _, _, h4⟩ := use_in hs.ok hu
    obtain ⟨_, _, h7, h8⟩ := h4 hk
    rw [clr_get (by omega)] at h1
    split at h1
    · exact (nf (by simpa using h1.symm)).elim
    · rw [hv.1] at h1; cases h1; rfl
  · rw [List.getElem?_set] at h1
    split at h1
    · rename_i e
      subst e
      rw [if_pos (List.getElem?_eq_some_iff.1 hu.1).1] at h1
      have e2 := hu.1.symm.trans hv.1
      cases e2
      unfold gvP at h1
      split at h1
      · exact (nf (by simpa using h1.symm)).elim
      · simp only [Option.some.injEq] at h1
        rw [← h1]
    · rw [hv.1] at h1; cases h1; rfl
theorem give_has (hs : SI s) {a : Int} (ha : s.has a = true) : GiveHas s (s.give a) a := by
  obtain ⟨i, k, p, hu⟩ := (has_iff hs.ok).1 ha
  have g := give_spec hs hu
  refine ⟨g.si, g.f, g.w, g.len, fun y => ⟨fun hy => ?_, fun ⟨hn, hy⟩ => ?_⟩, fun y hy => ?_, ?_, ?_⟩
  · obtain ⟨j, m, q, hv⟩ := (has_iff g.si.ok).1 hy
    obtain ⟨h1, q', h2⟩ := g.only _ _ _ _ hv
    exact ⟨h1, (has_iff hs.ok).2 ⟨j, m, q', h2⟩⟩
  · obtain ⟨j, m, q, hv⟩ := (has_iff hs.ok).1 hy
    obtain ⟨q', h2, _⟩ := g.old _ _ _ _ hv hn
    exact (has_iff g.si.ok).2 ⟨j, m, q', h2⟩
  · obtain ⟨j, m, q, hv⟩ := (has_iff g.si.ok).1 hy
    obtain ⟨h1, q', h2⟩ := g.only _ _ _ _ hv
    obtain ⟨q2, h3, e⟩ := g.old _ _ _ _ h2 h1
    have := use_one g.si.ok hv h3
    rw [use_size g.si.ok hv, use_size hs.ok h2, g.w, this.2.2, e]
  · rintro y ⟨j, m, q, hv, hp⟩ hn
    obtain ⟨q', h2, _⟩ := g.old _ _ _ _ hv hn
    exact ⟨j, m, q', h2, by rw [give_pend hs hu hv h2]; exact hp⟩
  · rintro y n ⟨m, q, hv⟩
    obtain ⟨h1, q', h2⟩ := g.only _ _ _ _ hv
    exact ⟨m, q', h2⟩
/-- Only what is to be swept changes. -/
structure SameHas (s s' : MS) : Prop where
  si : SI s'
  f : s'.f = s.f
  w : s'.w = s.w
  len : s'.l.length = s.l.length
  iff : ∀ y, s'.has y = s.has y
  size : ∀ y, s'.size y = s.size y
  pg : ∀ y n, onPg s' y n ↔ onPg s y n
theorem same_has (hs : SI s) {s' : MS} (hs' : SI s') (f : s'.f = s.f) (w : s'.w = s.w) (len : s'.l.length = s.l.length) {g : Nat → Pg → Pg}
    (hg : ∀ j p, (g j p).kind = p.kind ∧ (g j p).size = p.size ∧ (g j p).used = p.used) (hl : ∀ j, s'.l[j]? = s.l[j]?.map (g j)) : SameHas s s' ∧ ∀ x i k p, Use s x i k p ↔ Use s x i k p ∧ Use s' x i k (g i p) := by
  have u1 : ∀ x i k p, Use s x i k p → Use s' x i k (g i p) := fun x i k p h => by
    obtain ⟨e1, e2, e3⟩ := hg i p
    refine ⟨by rw [hl, h.1]; rfl, ?_⟩
    rw [e1, e2, e3, f, w]; exact h.2
  have u2 : ∀ x i k q, Use s' x i k q → ∃ p, Use s x i k p ∧ q = g i p := fun x i k q h => by
    have h1 := h.1
    rw [hl] at h1
    obtain ⟨p, hp, rfl⟩ := Option.map_eq_some_iff.1 h1
    obtain ⟨e1, e2, e3⟩ := hg i p
    have h2 := h.2
    rw [e1, e2, e3, f, w] at h2
    exact ⟨p, ⟨hp, h2⟩, rfl⟩
  refine ⟨⟨hs', f, w, len, fun y => ?_, fun y => ?_, fun y n => ⟨?_, ?_⟩⟩, fun x i k p => ⟨fun h => ⟨h, u1 _ _ _ _ h⟩, fun h => h.1⟩⟩
  · rw [Bool.eq_iff_iff, has_iff hs'.ok, has_iff hs.ok]
    constructor
    · rintro ⟨i, k, q, h⟩; obtain ⟨p, hp, _⟩ := u2 _ _ _ _ h; exact ⟨i, k, p, hp⟩
    · rintro ⟨i, k, q, h⟩; exact ⟨i, k, _, u1 _ _ _ _ h⟩
  · cases hy : s.has y with
    | true =>
      obtain ⟨i, k, p, hu⟩ := (has_iff hs.ok).1 hy
      obtain ⟨e1, e2, e3⟩ := hg i p
      rw [use_size hs.ok hu, use_size hs'.ok (u1 _ _ _ _ hu), w]
      unfold szP; rw [e1, e2]
    | false =>
      have n1 : atO s.f s.w s.l y = none := by
        unfold MS.has at hy
        cases ho : atO s.f s.w s.l y with
        | none => rfl
        | some v => rw [ho] at hy; cases hy
      have hy' : s'.has y = false := by
        cases h' : s'.has y with
        | false => rfl
        | true =>
          obtain ⟨i, k, q, hu⟩ := (has_iff hs'.ok).1 h'
          obtain ⟨p, hp, _⟩ := u2 _ _ _ _ hu
          rw [(has_iff hs.ok).2 ⟨i, k, p, hp⟩] at hy; cases hy
      have n2 : atO s'.f s'.w s'.l y = none := by
        unfold MS.has at hy'
        cases ho : atO s'.f s'.w s'.l y with
        | none => rfl
        | some v => rw [ho] at hy'; cases hy'
      unfold MS.size szO; rw [n1, n2]
  · rintro ⟨k, q, h⟩; obtain ⟨p, hp, _⟩ := u2 _ _ _ _ h; exact ⟨k, p, hp⟩
  · rintro ⟨k, q, h⟩; exact ⟨k, _, u1 _ _ _ _ h⟩
theorem pend_has (hs : SI s) : SameHas s s.pend ∧ ∀ y, s.has y = true → pendAt s.pend y := by
  obtain ⟨h1, h2⟩ := same_has hs (si_pend hs) rfl rfl (by simp [MS.pend]) (g := fun _ => pdP) (fun _ p => ⟨rfl, rfl, rfl⟩) (fun j => pend_get j)
  refine ⟨h1, fun y hy => ?_⟩
  obtain ⟨i, k, p, hu⟩ := (has_iff hs.ok).1 hy
  refine ⟨i, k, pdP p, use_pend hu, ?_⟩
  unfold pdP
  rcases hu.2 with ⟨h, _⟩ | ⟨h, _⟩ <;> simp [h]
theorem si_done (hs : SI s) (k : Int) : SI (s.done k) := ((⟨hs, rfl, rfl, rfl⟩ : PI s.f s.w s.l.length s).done k).si
theorem done_has (hs : SI s) {n : Nat} : SameHas s (s.done n) ∧ ∀ y, pendAt s y → ¬ onPg s y n → pendAt (s.done n) y := by
  have hl : ∀ j, (s.done n).l[j]? = s.l[j]?.map (fun p => if j = n then unP p else p) := fun j => by
    unfold MS.done doneR
    simp only []
    split
    · rw [List.getElem?_modify, Int.toNat_natCast]
      cases s.l[j]? with
      | none => rfl
      | some p => simp [eq_comm]
    · rename_i hd
      by_cases e : j = n
      · subst e
        cases hp : s.l[j]? with
        | none => rfl
        | some p =>
          have : p.pend = false := by
            unfold doneB at hd
            rw [if_pos (by omega), Int.toNat_natCast, hp] at hd
            simpa using hd
          simp [unP]
          obtain ⟨a, b, c, d⟩ := p
          simp at this ⊢; exact this
      · cases s.l[j]? with
        | none => rfl
        | some p => simp [e]
  obtain ⟨h1, h2⟩ := same_has hs (si_done hs n) rfl rfl (by
    unfold MS.done doneR; simp only []; split <;> simp) (g := fun j p => if j = n then unP p else p) (fun j p => by split <;> exact ⟨rfl, rfl, rfl⟩) hl
  refine ⟨h1, ?_⟩
  rintro y ⟨i, k, p, hu, hp⟩ hn
  have e : i ≠ n := by rintro rfl; exact hn ⟨k, p, hu⟩
  have := ((h2 _ _ _ _).1 hu).2
  rw [if_neg e] at this
  exact ⟨i, k, p, this, hp⟩
theorem pn_none {l : List Pg} (h : pn l = none) : ∀ p ∈ l, p.pend = false := by
  induction l with
  | nil => intro p hp; cases hp
  | cons q r ih =>
    unfold pn at h
    split at h
    · cases h
    · rename_i hq
      intro p hp
      rcases List.mem_cons.1 hp with rfl | hp
      · simpa using hq
      · exact ih (by simpa using h) p hp
theorem none_pend (h : pn s.l = none) (y : Int) : ¬ pendAt s y := by
  rintro ⟨i, k, p, hu, hp⟩
  rw [pn_none h p (List.mem_of_getElem? hu.1)] at hp
  cases hp
/-- A page's starts. -/
theorem page_starts (hs : SI s) {n : Nat} (hn : n < s.l.length) (y : Int) : y ∈ stL s.f s.w (s.f + n * s.w) (s.f + n * s.w + s.w) s.l 0 ↔ onPg s y n := by
  rw [starts_iff hs.ok, has_iff hs.ok]
  have w0 := hs.ok.2.1.1
  constructor
  · rintro ⟨h1, h2, i, k, p, hu⟩
    have hi := use_in hs.ok hu
    have : i = n := by
      have up : y < s.f + i * s.w + s.w := by
        rcases hu.2 with ⟨h, _⟩ | ⟨h, _⟩
        · have := (hi.2.2.2 h).1; omega
        · have := hi.2.2.1 h; have := hi.2.1; omega
      rcases Nat.lt_trichotomy i n with h | h | h
      · have := page_le w0 (by omega : (i : Int) + 1 ≤ n)
        rw [Int.add_mul, Int.one_mul] at this; omega
      · exact h
      · have := page_le w0 (by omega : (n : Int) + 1 ≤ i)
        rw [Int.add_mul, Int.one_mul] at this; omega
    subst this
    exact ⟨k, p, hu⟩
  · rintro ⟨k, p, hu⟩
    have hi := use_in hs.ok hu
    refine ⟨hi.1, ?_, n, k, p, hu⟩
    rcases hu.2 with ⟨h, _⟩ | ⟨h, _⟩
    · have := (hi.2.2.2 h).1; omega
    · have := hi.2.2.1 h; have := hi.2.1; omega
end
end Go.Proofs.YtihmkkjmnbehbaaGreat.Ma
