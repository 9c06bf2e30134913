/- Texts of the whole heap, joined: Sep MatMem. No condition beside those that each lemma names. -/
import Derived.Test.YtihmkkjmnbehbaaGreatMg00
import Derived.Laws.MakeOwn
import Derived.Laws.Entries
/- Parts of memory that do not touch one another, as a list. No condition. -/
set_option linter.unusedVariables false
set_option linter.unusedSimpArgs false
namespace Go.Proofs.YtihmkkjmnbehbaaGreat.W
open Go.RowKit

/-- A part: what holds of it in a world, if its blocks are those of a set. -/
structure Pr where
  p : World → (Nat → Prop) → Prop
  keep : ∀ {w w' : World} {o o' : Nat → Prop}, p w o → Keep o' w w' → (∀ i, o i → o' i → False) → p w' o
  mono : ∀ {w : World} {o o' : Nat → Prop}, p w o → (∀ i, o i → o' i) → p w o'
  bound : ∀ {w : World} {o : Nat → Prop}, p w o → p w (fun i => o i ∧ i < w.heap.size)

/-- Parts side by side, in blocks of o or newer than W; beside o, what W had is as it was. -/
def SepO (W : World) (o : Nat → Prop) (w : World) (l : List Pr) : Prop :=
  ∃ own : Nat → Nat, Keep o W w ∧ ∀ (k : Nat) (P : Pr), l[k]? = some P → P.p w (fun i => ((o i ∨ W.heap.size ≤ i) ∧ i < w.heap.size) ∧ own i = k)
/-- Parts side by side, all of them newer than W; what W had is as it was. -/
abbrev Sep (W w : World) (l : List Pr) : Prop := SepO W (fun _ => False) w l

section
variable {W w w' : World} {l m : List Pr} {P P' : Pr} {oo : Nat → Prop}
theorem Sep.nil (W : World) : Sep W W [] := ⟨fun _ => 0, Keep.refl _ _, fun k P h => by simp at h⟩
theorem SepO.keep0 (h : SepO W oo w l) : Keep oo W w := by obtain ⟨_, h, _⟩ := h; exact h
theorem SepO.below (h : SepO W (fun _ => False) w l) : Below W.heap.size W w := h.keep0.below (fun _ h => h.elim)
theorem SepO.block (h : SepO W (fun _ => False) w l) (i : Nat) (hi : i < W.heap.size) : w.heap[i]? = W.heap[i]? := h.keep0.block i hi (fun h => h)
theorem SepO.size (h : SepO W oo w l) : W.heap.size ≤ w.heap.size := h.keep0.size
theorem SepO.stay (h : SepO W oo w l) (k : Keep (fun _ => False) w w') : SepO W oo w' l := by
  obtain ⟨own, hk, hs⟩ := h
  exact ⟨own, hk.trans k (fun i h => h.elim), fun j P hj => P.mono (P.keep (hs j P hj) k (fun _ _ h => h)) (fun i h => ⟨⟨h.1.1, Nat.lt_of_lt_of_le h.1.2 k.size⟩, h.2⟩)⟩
theorem SepO.drew (h : SepO W oo w l) : SepO W oo w.drew l := h.stay (Keep.refl _ _).drew
theorem SepO.drewN (h : SepO W oo w l) (n : Nat) : SepO W oo (w.drewN n) l := h.stay ((Keep.refl _ _).drewN n)
theorem SepO.alloc (h : SepO W oo w l) (o : Obj) : SepO W oo (w.alloc o) l := h.stay ((Keep.refl _ _).alloc o)
/-- Two parts have nothing in common; one part is taken out, and put back turned. -/
theorem SepO.two {Q : Pr} (h : SepO W oo w l) (k j : Nat) (hk : l[k]? = some P) (hj : l[j]? = some Q) (hkj : k ≠ j) : ∃ o o' : Nat → Prop, P.p w o ∧ Q.p w o' ∧ (∀ i, o i → o' i → False) ∧ (∀ i, o i → (oo i ∨ W.heap.size ≤ i) ∧ i < w.heap.size) ∧ (∀ i, o' i → (oo i ∨ W.heap.size ≤ i) ∧ i < w.heap.size) ∧
    ∀ (w' : World) (P' : Pr), P'.p w' (fun i => o i ∨ w.heap.size ≤ i) → Keep o w w' → SepO W oo w' (l.set k P') := by
  obtain ⟨own, hkp, hs⟩ := h
  refine ⟨_, _, hs k P hk, hs j Q hj, fun i h1 h2 => hkj (by rw [← h1.2, ← h2.2]), fun i h => h.1, fun i h => h.1, fun w' P' hp hkk => ?_⟩
  have hz := hkp.size
  have hz' := hkk.size
  refine ⟨fun i => if i < w.heap.size then own i else k, hkp.trans hkk (fun i h => h.1.1), fun j Q hj => ?_⟩
  rw [List.getElem?_set] at hj
  by_cases hjk : k = j
  · subst hjk
    rw [if_pos rfl] at hj
    split at hj
    · injection hj with hj
      subst hj
      refine P'.mono (P'.bound hp) (fun i h => ?_)
      obtain ⟨h1, h2⟩ := h
      rcases h1 with h1 | h1
      · exact ⟨⟨h1.1.1, h2⟩, by simp only []; rw [if_pos h1.1.2]; exact h1.2⟩
      · exact ⟨⟨.inr (by omega), h2⟩, by simp only []; rw [if_neg (by omega)]⟩
    · cases hj
  · rw [if_neg hjk] at hj
    refine Q.mono (Q.keep (hs j Q hj) hkk (fun i h1 h2 => hjk (by rw [← h2.2, ← h1.2]))) (fun i h => ?_)
    exact ⟨⟨h.1.1, by have := h.1.2; omega⟩, by simp only []; rw [if_pos h.1.2]; exact h.2⟩
theorem SepO.open_ (h : SepO W oo w l) (k : Nat) (hk : l[k]? = some P) : ∃ o : Nat → Prop, P.p w o ∧ (∀ i, o i → (oo i ∨ W.heap.size ≤ i) ∧ i < w.heap.size) ∧
    ∀ (w' : World) (P' : Pr), P'.p w' (fun i => o i ∨ w.heap.size ≤ i) → Keep o w w' → SepO W oo w' (l.set k P') := by
  obtain ⟨own, hkp, hs⟩ := h
  refine ⟨_, hs k P hk, fun i h => h.1, fun w' P' hp hkk => ?_⟩
  have hz := hkp.size
  have hz' := hkk.size
  refine ⟨fun i => if i < w.heap.size then own i else k, hkp.trans hkk (fun i h => h.1.1), fun j Q hj => ?_⟩
  rw [List.getElem?_set] at hj
  by_cases hjk : k = j
  · subst hjk
    rw [if_pos rfl] at hj
    split at hj
    · injection hj with hj
      subst hj
      refine P'.mono (P'.bound hp) (fun i h => ?_)
      obtain ⟨h1, h2⟩ := h
      rcases h1 with h1 | h1
      · exact ⟨⟨h1.1.1, h2⟩, by simp only []; rw [if_pos h1.1.2]; exact h1.2⟩
      · exact ⟨⟨.inr (by omega), h2⟩, by simp only []; rw [if_neg (by omega)]⟩
    · cases hj
  · rw [if_neg hjk] at hj
    refine Q.mono (Q.keep (hs j Q hj) hkk (fun i h1 h2 => hjk (by rw [← h2.2, ← h1.2]))) (fun i h => ?_)
    exact ⟨⟨h.1.1, by have := h.1.2; omega⟩, by simp only []; rw [if_pos h.1.2]; exact h.2⟩
/-- .. in its own blocks. -/
theorem SepO.open0 (h : SepO W oo w l) (k : Nat) (hk : l[k]? = some P) : ∃ o : Nat → Prop, P.p w o ∧ (∀ i, o i → (oo i ∨ W.heap.size ≤ i) ∧ i < w.heap.size) ∧
    ∀ (w' : World) (P' : Pr), P'.p w' o → Keep o w w' → SepO W oo w' (l.set k P') := by
  obtain ⟨o, h1, h2, h3⟩ := h.open_ k hk
  exact ⟨o, h1, h2, fun w' P' hp hkk => h3 w' P' (P'.mono hp (fun i h => .inl h)) hkk⟩
/-- A new part. -/
theorem SepO.add (h : SepO W oo w l) (k : Keep (fun _ => False) w w') (hp : P.p w' (fun i => w.heap.size ≤ i)) : SepO W oo w' (l ++ [P]) := by
  obtain ⟨own, hkp, hs⟩ := h
  have hz := hkp.size
  have hz' := k.size
  refine ⟨fun i => if i < w.heap.size then own i else l.length, hkp.trans k (fun i h => h.elim), fun j Q hj => ?_⟩
  rcases Nat.lt_or_ge j l.length with hlt | hge
  · rw [List.getElem?_append_left hlt] at hj
    exact Q.mono (Q.keep (hs j Q hj) k (fun _ _ h => h)) (fun i h => ⟨⟨h.1.1, by have := h.1.2; omega⟩, by simp only []; rw [if_pos h.1.2]; exact h.2⟩)
  · rw [List.getElem?_append_right hge] at hj
    have hj0 : j = l.length := by
      have := (List.getElem?_eq_some_iff.1 hj).1
      simp at this
      omega
    subst hj0
    rw [Nat.sub_self] at hj
    simp at hj
    subst hj
    exact P.mono (P.bound hp) (fun i h => ⟨⟨.inr (by omega), h.2⟩, by simp only []; rw [if_neg (by omega)]⟩)
theorem SepO.first (h : SepO W oo w (l ++ m)) : SepO W oo w l := by
  obtain ⟨own, hkp, hs⟩ := h
  exact ⟨own, hkp, fun j Q hj => hs j Q (by rw [List.getElem?_append_left (List.getElem?_eq_some_iff.1 hj).1]; exact hj)⟩
theorem SepO.get (h : SepO W oo w l) (k : Nat) (hk : l[k]? = some P) : ∃ o, P.p w o ∧ (∀ i, o i → (oo i ∨ W.heap.size ≤ i) ∧ i < w.heap.size) := by
  obtain ⟨o, h1, h2, _⟩ := h.open_ k hk
  exact ⟨o, h1, h2⟩

/-- No part. -/
def emp : Pr := ⟨fun _ _ => True, fun _ _ _ => trivial, fun _ _ => trivial, fun _ => trivial⟩
theorem SepO.forget (h : SepO W oo w l) (k : Nat) : SepO W oo w (l.set k emp) := by
  obtain ⟨own, hkp, hs⟩ := h
  refine ⟨own, hkp, fun j Q hj => ?_⟩
  rw [List.getElem?_set] at hj
  by_cases hjk : k = j
  · subst hjk
    rw [if_pos rfl] at hj
    split at hj
    · injection hj with hj
      subst hj
      trivial
    · cases hj
  · rw [if_neg hjk] at hj
    exact hs j Q hj

/-- Some of the parts, in another order. -/
theorem SepO.pick (h : SepO W oo w l) (σ : List Nat) (hd : σ.Nodup) : SepO W oo w (σ.map fun k => l[k]?.getD emp) := by
  obtain ⟨own, hkp, hs⟩ := h
  refine ⟨fun i => σ.idxOf (own i), hkp, fun j Q hj => ?_⟩
  rw [List.getElem?_map] at hj
  rcases Nat.lt_or_ge j σ.length with hlt | hge
  · rw [List.getElem?_eq_getElem hlt] at hj
    simp only [Option.map_some, Option.some.injEq] at hj
    cases hl : l[σ[j]]? with
    | none =>
      rw [hl] at hj
      subst hj
      trivial
    | some P =>
      rw [hl] at hj
      simp only [Option.getD_some] at hj
      subst hj
      exact P.mono (hs _ P hl) (fun i hi => ⟨hi.1, by simp only []; rw [hi.2]; exact hd.idxOf_getElem j hlt⟩)
  · rw [List.getElem?_eq_none hge] at hj
    cases hj

/-- The last two parts change places. -/
theorem SepO.swap {Q : Pr} (h : SepO W oo w (l ++ [P] ++ [Q])) : SepO W oo w (l ++ [Q] ++ [P]) := by
  obtain ⟨own, hkp, hs⟩ := h
  refine ⟨fun i => if own i = l.length then l.length + 1 else if own i = l.length + 1 then l.length else own i, hkp, fun j R hj => ?_⟩
  rcases Nat.lt_trichotomy j l.length with hlt | rfl | hgt
  · refine R.mono (hs j R ?_) (fun i hi => ⟨hi.1, by simp only []; rw [hi.2, if_neg (by omega), if_neg (by omega)]⟩)
    rw [List.append_assoc, List.getElem?_append_left hlt] at hj ⊢
    exact hj
  · have : R = Q := by simpa using hj.symm
    subst this
    exact R.mono (hs (l.length + 1) R (by simp)) (fun i hi => ⟨hi.1, by simp only []; rw [hi.2, if_neg (by omega), if_pos rfl]⟩)
  · by_cases hj1 : j = l.length + 1
    · subst hj1
      have : R = P := by simpa using hj.symm
      subst this
      exact R.mono (hs l.length R (by simp)) (fun i hi => ⟨hi.1, by simp only []; rw [hi.2, if_pos rfl]⟩)
    · rw [List.getElem?_eq_none (by simp; omega)] at hj
      cases hj
/-- One part in the midst goes. -/
theorem SepO.drop_mid (h : SepO W oo w (l ++ P :: m)) : SepO W oo w (l ++ m) := by
  obtain ⟨own, hkp, hs⟩ := h
  refine ⟨fun i => if own i < l.length then own i else if own i = l.length then l.length + m.length else own i - 1, hkp, fun j R hj => ?_⟩
  rcases Nat.lt_or_ge j l.length with hlt | hge
  · rw [List.getElem?_append_left hlt] at hj
    exact R.mono (hs j R (by rw [List.getElem?_append_left hlt]; exact hj)) (fun i hi => ⟨hi.1, by simp only []; rw [hi.2, if_pos hlt]⟩)
  · rw [List.getElem?_append_right hge] at hj
    exact R.mono (hs (j + 1) R (by rw [List.getElem?_append_right (by omega), show j + 1 - l.length = (j - l.length) + 1 by omega]; simpa using hj)) (fun i hi => ⟨hi.1, by simp only []; rw [hi.2, if_neg (by omega), if_neg (by omega)]; omega⟩)
theorem at_left {l m : List Pr} {i : Nat} (h : l[i]? = some P) : (l ++ m)[i]? = some P := by rw [List.getElem?_append_left (List.getElem?_eq_some_iff.1 h).1]; exact h
theorem at_last {l m : List Pr} : (l ++ P :: m)[l.length]? = some P := by simp
/-- Parts side by side, as one part. -/
def sepP (L : List Pr) : Pr :=
  ⟨fun w o => ∃ own : Nat → Nat, ∀ (k : Nat) (P : Pr), L[k]? = some P → P.p w (fun i => (o i ∧ i < w.heap.size) ∧ own i = k),
   fun h k hn => by
    obtain ⟨own, hs⟩ := h
    exact ⟨own, fun j P hj => P.mono (P.keep (hs j P hj) k (fun i h1 h2 => hn i h1.1.1 h2)) (fun i h => ⟨⟨h.1.1, Nat.lt_of_lt_of_le h.1.2 k.size⟩, h.2⟩)⟩,
   fun h hm => by
    obtain ⟨own, hs⟩ := h
    exact ⟨own, fun j P hj => P.mono (hs j P hj) (fun i h => ⟨⟨hm i h.1.1, h.1.2⟩, h.2⟩)⟩,
   fun h => by
    obtain ⟨own, hs⟩ := h
    exact ⟨own, fun j P hj => P.mono (hs j P hj) (fun i h => ⟨⟨h.1, h.1.2⟩, h.2⟩)⟩⟩
theorem SepO.enter {o : Nat → Prop} (h : (sepP l).p w o) : SepO w o w l := by
  obtain ⟨own, hs⟩ := h
  exact ⟨own, Keep.refl _ _, fun j P hj => P.mono (hs j P hj) (fun i h => ⟨⟨.inl h.1.1, h.1.2⟩, h.2⟩)⟩
theorem SepO.leave (h : SepO W oo w l) : (sepP l).p w (fun i => oo i ∨ W.heap.size ≤ i) := by
  obtain ⟨own, _, hs⟩ := h
  exact ⟨own, fun j P hj => P.mono (hs j P hj) (fun i h => ⟨⟨h.1.1, h.1.2⟩, h.2⟩)⟩
/-- A part that may be one of many. -/
def exP {α : Type} (F : α → Pr) : Pr :=
  ⟨fun w o => ∃ a, (F a).p w o, fun h k hn => h.imp fun a h => (F a).keep h k hn, fun h hs => h.imp fun a h => (F a).mono h hs, fun h => h.imp fun a h => (F a).bound h⟩
/-- A part of which something is known. -/
def andP (c : Prop) (P : Pr) : Pr :=
  ⟨fun w o => c ∧ P.p w o, fun h k hn => ⟨h.1, P.keep h.2 k hn⟩, fun h hs => ⟨h.1, P.mono h.2 hs⟩, fun h => ⟨h.1, P.bound h.2⟩⟩

/-- A block that is known whole. -/
def blkP (g : Nat) (t : TypeId) (cs : Array Value) : Pr :=
  ⟨fun w o => o g ∧ Blk w g t cs, fun h k hn => ⟨h.1, k.blk h.2 (fun x => hn _ h.1 x)⟩, fun h hs => ⟨hs _ h.1, h.2⟩, fun h => ⟨⟨h.1, h.2.lt⟩, h.2⟩⟩
/-- A row of one-cell elements. -/
def rowP (e : TypeId) (A : Option Addr) (n c : Nat) (xs : List Value) : Pr :=
  ⟨fun w o => QR w o e A n c xs, fun h k hn => h.keep k hn, fun h hs => h.mono hs, fun h => h.bound⟩
section
variable {g : Nat} {t e : TypeId} {cs : Array Value} {A : Option Addr} {n c : Nat} {xs : List Value}
theorem SepO.blk (h : SepO W oo w l) (k : Nat) (hk : l[k]? = some (blkP g t cs)) : Blk w g t cs := by obtain ⟨o, h1, _⟩ := h.get k hk; exact h1.2
theorem SepO.blk_lt (h : SepO W oo w l) (k : Nat) (hk : l[k]? = some (blkP g t cs)) : (oo g ∨ W.heap.size ≤ g) ∧ g < w.heap.size := by obtain ⟨o, h1, h2⟩ := h.get k hk; exact h2 _ h1.1
theorem SepO.set_blk (h : SepO W oo w l) (k : Nat) (hk : l[k]? = some (blkP g t cs)) (i : Nat) (u : Value) : SepO W oo (w.setCell ⟨g, i, none⟩ u) (l.set k (blkP g t (cs.setIfInBounds i u))) := by
  obtain ⟨o, ⟨h1, h2⟩, _, hup⟩ := h.open_ k hk
  exact hup _ _ ⟨.inl h1, h2.set_ i u⟩ ((Keep.refl _ _).set_ (.inl h1) _)
theorem SepO.set_mid (h : SepO W oo w (l ++ blkP g t cs :: m)) (i : Nat) (u : Value) : SepO W oo (w.setCell ⟨g, i, none⟩ u) (l ++ blkP g t (cs.setIfInBounds i u) :: m) := by
  have := h.set_blk l.length at_last i u
  rwa [List.set_append_right _ _ (Nat.le_refl _), Nat.sub_self, List.set_cons_zero] at this
theorem SepO.new_blk (h : SepO W oo w l) (t : TypeId) (cs : Array Value) : SepO W oo (w.alloc (.cells cs t)) (l ++ [blkP w.heap.size t cs]) :=
  h.add ((Keep.refl _ _).alloc _) ⟨Nat.le_refl _, Blk.new w t cs⟩
theorem SepO.new_row (h : SepO W oo w l) (t : TypeId) (cs : Array Value) (hc : cs.size ≤ 9223372036854775807) : SepO W oo (w.alloc (.cells cs t)) (l ++ [rowP t (some ⟨w.heap.size, 0, none⟩) cs.size cs.size cs.toList]) :=
  h.add ((Keep.refl _ _).alloc _) ⟨by simp, Nat.le_refl _, hc, .inr ⟨_, 0, cs, rfl, Nat.le_refl _, Blk.new w t cs, by simp, by simp [List.take_of_length_le]⟩⟩
theorem SepO.nil_row (h : SepO W oo w l) (t : TypeId) : SepO W oo w (l ++ [rowP t none 0 0 []]) := h.add (Keep.refl _ _) (QR.nil _ _ _)
theorem SepO.row (h : SepO W oo w l) (k : Nat) (hk : l[k]? = some (rowP e A n c xs)) : ∃ o, QR w o e A n c xs ∧ (∀ i, o i → (oo i ∨ W.heap.size ≤ i) ∧ i < w.heap.size) := h.get k hk
theorem SepO.sl {L : List Int} {k' : IntKind} (h : SepO W oo w l) (k : Nat) (hk : l[k]? = some (rowP e A L.length c (L.map (Value.int k')))) : ∃ o, SL w o k' (.slice A L.length c) L ∧ (∀ i, o i → (oo i ∨ W.heap.size ≤ i) ∧ i < w.heap.size) := by
  obtain ⟨o, h1, h2⟩ := h.row k hk
  exact ⟨o, h1.sl, h2⟩
/-- A row is cut behind. -/
theorem SepO.row_take (h : SepO W oo w l) (k : Nat) (hk : l[k]? = some (rowP e A n c xs)) {j : Nat} (hj : j ≤ n) : SepO W oo w (l.set k (rowP e A j c (xs.take j))) := by
  obtain ⟨o, h1, _, hup⟩ := h.open_ k hk
  exact hup w _ ((QR.take h1 hj).mono (fun i h => .inl h)) (Keep.refl _ _)
theorem SepO.row_tail (h : SepO W oo w l) (k : Nat) (hk : l[k]? = some (rowP e A n c xs)) (hn : 1 ≤ n) : SepO W oo w (l.set k (rowP e (if c = 1 then A else A.map (·.add 1)) (n - 1) (c - 1) (xs.drop 1))) := by
  obtain ⟨o, h1, _, hup⟩ := h.open_ k hk
  exact hup w _ ((QR.tail h1 hn).mono (fun i h => .inl h)) (Keep.refl _ _)
end

/-- 'x = append(x, u)' of a row that is a part: as one step of a walk. -/
theorem wpList_append_sep {G : Program} {ops : Array Oper} {rest : List Oper} {o : Oper} {a : Act} {Q : Exit → Act → World → Prop} (hgd : o.guard = none) (s x : Operand) (t : TypeId)
    (ho : o.op = .call { callee := .builtin .append, args := #[s, x], argTypes := #[t, t] })
    (e : TypeId) (i : TypeInfo) (z : Value) (bytes : Nat) (ht : G.underlying t = some (.slice e)) (hi : G.info? e = some i) (hz : i.zero = some z) (hs : i.size = 1) (hby : i.bytes = bytes) (hzc : z.cells.size = 1)
    (A : Option Addr) (n c : Nat) (xs : List Value) (hsv : a.eval s = .slice A n c) (B : Nat) (u : Value) (hxv : a.eval x = .slice (some ⟨B, 0, none⟩) 1 1)
    (h : SepO W oo w l) (k : Nat) (hk : l[k]? = some (rowP e A n c xs)) (hcell : w.cell? ⟨B, 0, none⟩ = some u) (h1 : u.oneCell' = true)
    (h63 : n + 1 ≤ 9223372036854775807) (hbytes : (n + 1) * bytes ≤ 140737488355328)
    (hw : ∀ A' c' w', SepO W oo w' (l.set k (rowP e A' (n + 1) c' (xs ++ [u]))) → wpList G ops Q rest (a.put o.dst (.slice A' (n + 1) c')) w') : wpList G ops Q (o :: rest) a w := by
  obtain ⟨ok, hq, _, hup⟩ := h.open_ k hk
  exact wpList_append_q hgd s x t ho e i z bytes ht hi hz hs hby hzc A n c xs hsv hq B u hxv hcell h1 h63 hbytes (fun A' c' w' hq' hkk => hw A' c' w' (hup w' (rowP e A' (n + 1) c' (xs ++ [u])) hq' hkk))
end
end Go.Proofs.YtihmkkjmnbehbaaGreat.W
/- Pages of a space in memory. No condition. -/
set_option linter.unusedVariables false
set_option linter.unusedSimpArgs false
namespace Go.Proofs.YtihmkkjmnbehbaaGreat.Ma
open Go.RowKit Go.Proofs.YtihmkkjmnbehbaaGreat.W Go.Proofs.YtihmkkjmnbehbaaGreat.Cl

theorem info_bool : (Tryz.prog.info? 4).map (fun i => (i.zero, i.size, i.bytes)) = some (some (.bool false), 1, 1) := by kernel_rfl
abbrev pt (b : Nat) : Value := .pointer (some ⟨b, 0, none⟩)
def bools (m : List Bool) : Array Value := (m.map Value.bool).toArray
theorem bools_get {m : List Bool} {i : Nat} (h : i < m.length) : (bools m)[i]? = some (.bool (m[i]?.getD false)) := by simp [bools, h]
theorem bools_set (m : List Bool) (i : Nat) (x : Bool) : (bools m).setIfInBounds i (.bool x) = bools (m.set i x) := by simp [bools, List.map_set]

/-- A page: what it is, its cells' size (or a large one's words), which of its cells are used, whether it is to be swept. -/
structure Pg where
  kind : Int
  size : Int
  used : List Bool
  pend : Bool
def fre : Pg := ⟨0, 0, [], false⟩
/-- A page's row of marks; g: its block, if it has one. -/
def usl (p : Pg) (g : Nat) : Value := if p.used.isEmpty then .slice none 0 0 else .slice (some ⟨g, 0, none⟩) p.used.length p.used.length
def pcells (p : Pg × Nat) : List Value := [.int .i64 p.1.kind, .int .i64 p.1.size, usl p.1 p.2, .bool p.1.pend]
def pcs (l : List (Pg × Nat)) : List Value := l.flatMap pcells
theorem pcs_len (l : List (Pg × Nat)) : (pcs l).length = 4 * l.length := by
  induction l with
  | nil => rfl
  | cons p l ih => simp only [pcs, List.flatMap_cons, List.length_append] at ih ⊢; rw [ih]; simp [pcells]; omega
theorem pcs_get {l : List (Pg × Nat)} {i : Nat} {p : Pg × Nat} (h : l[i]? = some p) {j : Nat} (hj : j < 4) : (pcs l)[i * 4 + j]? = (pcells p)[j]? := by
  induction l generalizing i with
  | nil => simp at h
  | cons q l ih =>
    cases i with
    | zero =>
      simp at h
      subst h
      simp only [pcs, List.flatMap_cons, Nat.zero_mul, Nat.zero_add]
      rw [List.getElem?_append_left (by simp [pcells]; omega)]
    | succ i =>
      simp at h
      simp only [pcs, List.flatMap_cons]
      rw [List.getElem?_append_right (by simp [pcells]; omega)]
      have := ih h
      simp only [pcs] at this
      rw [← this]
      congr 1
      simp [pcells]; omega
theorem pcs_set {l : List (Pg × Nat)} {i : Nat} {p q : Pg × Nat} (h : l[i]? = some p) {j : Nat} (hj : j < 4) {v : Value} (hq : (pcells p).set j v = pcells q) : (pcs l).set (i * 4 + j) v = pcs (l.set i q) := by
  induction l generalizing i with
  | nil => simp at h
  | cons r l ih =>
    cases i with
    | zero =>
      simp at h
      subst h
      simp only [pcs, List.flatMap_cons, Nat.zero_mul, Nat.zero_add, List.set_cons_zero]
      rw [List.set_append_left _ _ (by simp [pcells]; omega), hq]
    | succ i =>
      simp at h
      simp only [pcs, List.flatMap_cons, List.set_cons_succ]
      rw [List.set_append_right _ _ (by simp [pcells]; omega)]
      have := ih h
      simp only [pcs] at this
      rw [← this]
      congr 2
      simp [pcells]; omega
/-- The whole page is another one. -/
theorem pcs_put {l : List (Pg × Nat)} {i : Nat} {p : Pg × Nat} (h : l[i]? = some p) (q : Pg × Nat) :
    ((((pcs l).set (i * 4) (.int .i64 q.1.kind)).set (i * 4 + 1) (.int .i64 q.1.size)).set (i * 4 + 2) (usl q.1 q.2)).set (i * 4 + 3) (.bool q.1.pend) = pcs (l.set i q) := by
  induction l generalizing i with
  | nil => simp at h
  | cons r l ih =>
    cases i with
    | zero => simp [pcs, pcells]
    | succ i =>
      simp at h
      have := ih h
      simp only [pcs, List.flatMap_cons, List.set_cons_succ] at this ⊢
      have e : ∀ k, (i + 1) * 4 + k = (pcells r).length + (i * 4 + k) := fun k => by simp [pcells]; omega
      rw [show (i + 1) * 4 = (pcells r).length + i * 4 from by simp [pcells]; omega]
      simp only [Nat.add_assoc]
      simp only [List.set_append_right _ _ (Nat.le_add_right _ _), Nat.add_sub_cancel_left]
      rw [this]

/-- A space: from a place on, words of a page, pages. -/
structure MS where
  f : Int
  w : Int
  l : List Pg
/-- What a page may be. -/
def Pg.ok (w : Int) (p : Pg) : Prop :=
  (p.kind = 1 ∧ 1 ≤ p.size ∧ p.size ≤ w ∧ (p.used.length : Int) = w / p.size) ∨ (p.kind ≠ 1 ∧ p.used = [] ∧ 0 ≤ p.kind ∧ p.kind ≤ 3 ∧ (p.kind = 2 → 1 ≤ p.size ∧ p.size ≤ 9223372036854775807))
def MS.ok (s : MS) : Prop := (0 ≤ s.f ∧ s.f ≤ 1048576) ∧ (1 ≤ s.w ∧ s.w ≤ 256) ∧ s.l.length ≤ 64 ∧ (∀ p ∈ s.l, p.ok s.w) ∧ ∀ (n : Nat) (p : Pg), s.l[n]? = some p → p.kind = 2 → (n : Int) + pgs s.w p.size ≤ s.l.length
def upart (p : Pg × Nat) : Pr := if p.1.used.isEmpty then emp else blkP p.2 4 (bools p.1.used)
abbrev scells (f w : Int) (L n : Nat) : Array Value := #[.int .i64 f, .int .i64 w, .slice (some ⟨L, 0, none⟩) n n]
def mparts (b L : Nat) (f w : Int) (lg : List (Pg × Nat)) : List Pr := blkP b 95 (scells f w L lg.length) :: blkP L 92 (pcs lg).toArray :: lg.map upart
def Mat (b : Nat) (s : MS) : Pr := exP fun r : Nat × List (Pg × Nat) => andP (s.ok ∧ r.2.map (·.1) = s.l) (sepP (mparts b r.1 s.f s.w r.2))

section
variable {W w : World} {oo : Nat → Prop} {b L : Nat} {f n : Int} {lg : List (Pg × Nat)}
theorem m_blk (h : SepO W oo w (mparts b L f n lg)) : Blk w b 95 (scells f n L lg.length) := h.blk 0 rfl
theorem m_list (h : SepO W oo w (mparts b L f n lg)) : Blk w L 92 (pcs lg).toArray := h.blk 1 rfl
theorem m_page (h : SepO W oo w (mparts b L f n lg)) {i : Nat} {p : Pg × Nat} (hp : lg[i]? = some p) :
    w.cell? ⟨L, i * 4, none⟩ = some (.int .i64 p.1.kind) ∧ w.cell? ⟨L, i * 4 + 1, none⟩ = some (.int .i64 p.1.size) ∧ w.cell? ⟨L, i * 4 + 2, none⟩ = some (usl p.1 p.2) ∧ w.cell? ⟨L, i * 4 + 3, none⟩ = some (.bool p.1.pend) := by
  have e : ∀ j, j < 4 → w.cell? ⟨L, i * 4 + j, none⟩ = (pcells p)[j]? := fun j hj => by
    rw [(m_list h).cell, List.getElem?_toArray]; exact pcs_get hp hj
  exact ⟨e 0 (by omega), e 1 (by omega), e 2 (by omega), e 3 (by omega)⟩
theorem m_used (h : SepO W oo w (mparts b L f n lg)) {i : Nat} {p : Pg × Nat} (hp : lg[i]? = some p) (hu : p.1.used ≠ []) : (mparts b L f n lg)[i + 2]? = some (blkP p.2 4 (bools p.1.used)) := by
  show (lg.map upart)[i]? = _
  rw [List.getElem?_map, hp]
  simp [upart, hu]
/-- A field of a page is stored. -/
theorem m_field (h : SepO W oo w (mparts b L f n lg)) {i : Nat} {p q : Pg × Nat} (hp : lg[i]? = some p) {j : Nat} (hj : j < 4) {v : Value} (hq : (pcells p).set j v = pcells q) (hu : upart q = upart p) :
    SepO W oo (w.setCell ⟨L, i * 4 + j, none⟩ v) (mparts b L f n (lg.set i q)) := by
  have h1 := h.set_blk 1 rfl (i * 4 + j) v
  have e : (pcs lg).toArray.setIfInBounds (i * 4 + j) v = (pcs (lg.set i q)).toArray := by
    rw [List.setIfInBounds_toArray, pcs_set hp hj hq]
  rw [e] at h1
  have e2 : (lg.set i q).map upart = lg.map upart := by
    rw [List.map_set, hu]
    apply List.ext_getElem?
    intro k
    rw [List.getElem?_set]
    split
    · rename_i hk
      subst hk
      rw [List.getElem?_map, hp]
      split
      · rfl
      · rename_i hl; exact absurd (by simpa using (List.getElem?_eq_some_iff.1 hp).1) hl
    · rfl
  have e3 : mparts b L f n (lg.set i q) = (mparts b L f n lg).set 1 (blkP L 92 (pcs (lg.set i q)).toArray) := by
    unfold mparts
    rw [e2, List.length_set]
    rfl
  rw [e3]
  exact h1
/-- A mark of a page is stored. -/
theorem m_mark (h : SepO W oo w (mparts b L f n lg)) {i : Nat} {p : Pg × Nat} (hp : lg[i]? = some p) (hu : p.1.used ≠ []) (k : Nat) (x : Bool) :
    SepO W oo (w.setCell ⟨p.2, k, none⟩ (.bool x)) (mparts b L f n (lg.set i (⟨p.1.kind, p.1.size, p.1.used.set k x, p.1.pend⟩, p.2))) := by
  have h1 := h.set_blk (i + 2) (m_used h hp hu) k (.bool x)
  rw [bools_set] at h1
  have hne : p.1.used.set k x ≠ [] := by
    intro he
    have := congrArg List.length he
    rw [List.length_set] at this
    exact hu (List.eq_nil_of_length_eq_zero this)
  have e1 : pcs (lg.set i (⟨p.1.kind, p.1.size, p.1.used.set k x, p.1.pend⟩, p.2)) = pcs lg := by
    have := pcs_set hp (j := 0) (by omega) (v := .int .i64 p.1.kind) (q := (⟨p.1.kind, p.1.size, p.1.used.set k x, p.1.pend⟩, p.2)) (by simp [pcells, usl, hu, hne])
    rw [← this]
    apply List.ext_getElem?
    intro m
    rw [List.getElem?_set]
    split
    · rename_i hk
      subst hk
      have := pcs_get hp (j := 0) (by omega)
      rw [this]
      split
      · rfl
      · rename_i hl
        have h2 := pcs_len lg
        have h3 := (List.getElem?_eq_some_iff.1 hp).1
        omega
    · rfl
  have e3 : mparts b L f n (lg.set i (⟨p.1.kind, p.1.size, p.1.used.set k x, p.1.pend⟩, p.2)) = (mparts b L f n lg).set (i + 2) (blkP p.2 4 (bools (p.1.used.set k x))) := by
    unfold mparts
    rw [e1, List.length_set, List.map_set]
    simp [upart, hne]
  rw [e3]
  exact h1
end
end Go.Proofs.YtihmkkjmnbehbaaGreat.Ma
