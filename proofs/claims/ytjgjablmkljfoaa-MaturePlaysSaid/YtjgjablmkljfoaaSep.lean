/- Parts of memory that do not touch one another, as a list. No condition. -/
import Derived.Test.YtjgjablmkljfoaaQueue
set_option linter.unusedVariables false
set_option linter.unusedSimpArgs false
namespace Go.Proofs.Ytjgjablmkljfoaa.W
open Go.RowKit

/-- A part: what holds of it in a world, if its blocks are those of a set. -/
structure Pr where
  p : World → (Nat → Prop) → Prop
  keep : ∀ {w w' : World} {o o' : Nat → Prop}, p w o → Keep o' w w' → (∀ i, o i → o' i → False) → p w' o
  mono : ∀ {w : World} {o o' : Nat → Prop}, p w o → (∀ i, o i → o' i) → p w o'
  bound : ∀ {w : World} {o : Nat → Prop}, p w o → p w (fun i => o i ∧ i < w.heap.size)

/-- Parts side by side, in blocks of o or newer than W; beside o, what W had is as it was. -/
def SepO (W : World) (o : Nat → Prop) (w : World) (l : List Pr) : Prop :=
  ∃ own : Nat → Nat, Keep o W w ∧ ∀ (k : Nat) (P : Pr), l[k]? = some P → P.p w (fun i => ((o i ∨ W.heap.size ≤ i) ∧ i < w.heap.size) ∧ own i = k)
/-- Parts side by side, all of them newer than W; what W had is as it was. -/
abbrev Sep (W w : World) (l : List Pr) : Prop := SepO W (fun _ => False) w l

section
variable {W w w' : World} {l m : List Pr} {P P' : Pr} {oo : Nat → Prop}
theorem Sep.nil (W : World) : Sep W W [] := ⟨fun _ => 0, Keep.refl _ _, fun k P h => by simp at h⟩
theorem SepO.keep0 (h : SepO W oo w l) : Keep oo W w := by obtain ⟨_, h, _⟩ := h; exact h
theorem SepO.below (h : SepO W (fun _ => False) w l) : Below W.heap.size W w := h.keep0.below (fun _ h => h.elim)
theorem SepO.block (h : SepO W (fun _ => False) w l) (i : Nat) (hi : i < W.heap.size) : w.heap[i]? = W.heap[i]? := h.keep0.block i hi (fun h => h)
theorem SepO.size (h : SepO W oo w l) : W.heap.size ≤ w.heap.size := h.keep0.size
theorem SepO.stay (h : SepO W oo w l) (k : Keep (fun _ => False) w w') : SepO W oo w' l := by
  obtain ⟨own, hk, hs⟩ := h
  exact ⟨own, hk.trans k (fun i h => h.elim), fun j P hj => P.mono (P.keep (hs j P hj) k (fun _ _ h => h)) (fun i h => ⟨⟨h.1.1, Nat.lt_of_lt_of_le h.1.2 k.size⟩, h.2⟩)⟩
theorem SepO.drew (h : SepO W oo w l) : SepO W oo w.drew l := h.stay (Keep.refl _ _).drew
theorem SepO.drewN (h : SepO W oo w l) (n : Nat) : SepO W oo (w.drewN n) l := h.stay ((Keep.refl _ _).drewN n)
theorem SepO.alloc (h : SepO W oo w l) (o : Obj) : SepO W oo (w.alloc o) l := h.stay ((Keep.refl _ _).alloc o)
/-- Two parts have nothing in common; one part is taken out, and put back turned. -/
theorem SepO.two {Q : Pr} (h : SepO W oo w l) (k j : Nat) (hk : l[k]? = some P) (hj : l[j]? = some Q) (hkj : k ≠ j) : ∃ o o' : Nat → Prop, P.p w o ∧ Q.p w o' ∧ (∀ i, o i → o' i → False) ∧ (∀ i, o i → (oo i ∨ W.heap.size ≤ i) ∧ i < w.heap.size) ∧ (∀ i, o' i → (oo i ∨ W.heap.size ≤ i) ∧ i < w.heap.size) ∧
    ∀ (w' : World) (P' : Pr), P'.p w' (fun i => o i ∨ w.heap.size ≤ i) → Keep o w w' → SepO W oo w' (l.set k P') := by
  obtain ⟨own, hkp, hs⟩ := h
  refine ⟨_, _, hs k P hk, hs j Q hj, fun i h1 h2 => hkj (by rw [← h1.2, ← h2.2]), fun i h => h.1, fun i h => h.1, fun w' P' hp hkk => ?_⟩
  have hz := hkp.size
  have hz' := hkk.size
  refine ⟨fun i => if i < w.heap.size then own i else k, hkp.trans hkk (fun i h => h.1.1), fun j Q hj => ?_⟩
  rw [List.getElem?_set] at hj
  by_cases hjk : k = j
  · subst hjk
    rw [if_pos rfl] at hj
    split at hj
    · injection hj with hj
      subst hj
      refine P'.mono (P'.bound hp) (fun i h => ?_)
      obtain ⟨h1, h2⟩ := h
      rcases h1 with h1 | h1
      · exact ⟨⟨h1.1.1, h2⟩, by simp only []; rw [if_pos h1.1.2]; exact h1.2⟩
      · exact ⟨⟨.inr (by omega), h2⟩, by simp only []; rw [if_neg (by omega)]⟩
    · cases hj
  · rw [if_neg hjk] at hj
    refine Q.mono (Q.keep (hs j Q hj) hkk (fun i h1 h2 => hjk (by rw [← h2.2, ← h1.2]))) (fun i h => ?_)
    exact ⟨⟨h.1.1, by have := h.1.2; omega⟩, by simp only []; rw [if_pos h.1.2]; exact h.2⟩
theorem SepO.open_ (h : SepO W oo w l) (k : Nat) (hk : l[k]? = some P) : ∃ o : Nat → Prop, P.p w o ∧ (∀ i, o i → (oo i ∨ W.heap.size ≤ i) ∧ i < w.heap.size) ∧
    ∀ (w' : World) (P' : Pr), P'.p w' (fun i => o i ∨ w.heap.size ≤ i) → Keep o w w' → SepO W oo w' (l.set k P') := by
  obtain ⟨own, hkp, hs⟩ := h
  refine ⟨_, hs k P hk, fun i h => h.1, fun w' P' hp hkk => ?_⟩
  have hz := hkp.size
  have hz' := hkk.size
  refine ⟨fun i => if i < w.heap.size then own i else k, hkp.trans hkk (fun i h => h.1.1), fun j Q hj => ?_⟩
  rw [List.getElem?_set] at hj
  by_cases hjk : k = j
  · subst hjk
    rw [if_pos rfl] at hj
    split at hj
    · injection hj with hj
      subst hj
      refine P'.mono (P'.bound hp) (fun i h => ?_)
      obtain ⟨h1, h2⟩ := h
      rcases h1 with h1 | h1
      · exact ⟨⟨h1.1.1, h2⟩, by simp only []; rw [if_pos h1.1.2]; exact h1.2⟩
      · exact ⟨⟨.inr (by omega), h2⟩, by simp only []; rw [if_neg (by omega)]⟩
    · cases hj
  · rw [if_neg hjk] at hj
    refine Q.mono (Q.keep (hs j Q hj) hkk (fun i h1 h2 => hjk (by rw [← h2.2, ← h1.2]))) (fun i h => ?_)
    exact ⟨⟨h.1.1, by have := h.1.2; omega⟩, by simp only []; rw [if_pos h.1.2]; exact h.2⟩
/-- .. in its own blocks. -/
theorem SepO.open0 (h : SepO W oo w l) (k : Nat) (hk : l[k]? = some P) : ∃ o : Nat → Prop, P.p w o ∧ (∀ i, o i → (oo i ∨ W.heap.size ≤ i) ∧ i < w.heap.size) ∧
    ∀ (w' : World) (P' : Pr), P'.p w' o → Keep o w w' → SepO W oo w' (l.set k P') := by
  obtain ⟨o, h1, h2, h3⟩ := h.open_ k hk
  exact ⟨o, h1, h2, fun w' P' hp hkk => h3 w' P' (P'.mono hp (fun i h => .inl h)) hkk⟩
/-- A new part. -/
theorem SepO.add (h : SepO W oo w l) (k : Keep (fun _ => False) w w') (hp : P.p w' (fun i => w.heap.size ≤ i)) : SepO W oo w' (l ++ [P]) := by
  obtain ⟨own, hkp, hs⟩ := h
  have hz := hkp.size
  have hz' := k.size
  refine ⟨fun i => if i < w.heap.size then own i else l.length, hkp.trans k (fun i h => h.elim), fun j Q hj => ?_⟩
  rcases Nat.lt_or_ge j l.length with hlt | hge
  · rw [List.getElem?_append_left hlt] at hj
    exact Q.mono (Q.keep (hs j Q hj) k (fun _ _ h => h)) (fun i h => ⟨⟨h.1.1, by have := h.1.2; omega⟩, by simp only []; rw [if_pos h.1.2]; exact h.2⟩)
  · rw [List.getElem?_append_right hge] at hj
    have hj0 : j = l.length := by
      have := (List.getElem?_eq_some_iff.1 hj).1
      simp at this
      omega
    subst hj0
    rw [Nat.sub_self] at hj
    simp at hj
    subst hj
    exact P.mono (P.bound hp) (fun i h => ⟨⟨.inr (by omega), h.2⟩, by simp only []; rw [if_neg (by omega)]⟩)
theorem SepO.first (h : SepO W oo w (l ++ m)) : SepO W oo w l := by
  obtain ⟨own, hkp, hs⟩ := h
  exact ⟨own, hkp, fun j Q hj => hs j Q (by rw [List.getElem?_append_left (List.getElem?_eq_some_iff.1 hj).1]; exact hj)⟩
theorem SepO.get (h : SepO W oo w l) (k : Nat) (hk : l[k]? = some P) : ∃ o, P.p w o ∧ (∀ i, o i → (oo i ∨ W.heap.size ≤ i) ∧ i < w.heap.size) := by
  obtain ⟨o, h1, h2, _⟩ := h.open_ k hk
  exact ⟨o, h1, h2⟩

/-- No part. -/
def emp : Pr := ⟨fun _ _ => True, fun _ _ _ => trivial, fun _ _ => trivial, fun _ => trivial⟩
theorem SepO.forget (h : SepO W oo w l) (k : Nat) : SepO W oo w (l.set k emp) := by
  obtain ⟨own, hkp, hs⟩ := h
  refine ⟨own, hkp, fun j Q hj => ?_⟩
  rw [List.getElem?_set] at hj
  by_cases hjk : k = j
  · subst hjk
    rw [if_pos rfl] at hj
    split at hj
    · injection hj with hj
      subst hj
      trivial
    · cases hj
  · rw [if_neg hjk] at hj
    exact hs j Q hj

/-- Some of the parts, in another order. -/
theorem SepO.pick (h : SepO W oo w l) (σ : List Nat) (hd : σ.Nodup) : SepO W oo w (σ.map fun k => l[k]?.getD emp) := by
  obtain ⟨own, hkp, hs⟩ := h
  refine ⟨fun i => σ.idxOf (own i), hkp, fun j Q hj => ?_⟩
  rw [List.getElem?_map] at hj
  rcases Nat.lt_or_ge j σ.length with hlt | hge
  · rw [List.getElem?_eq_getElem hlt] at hj
    simp only [Option.map_some, Option.some.injEq] at hj
    cases hl : l[σ[j]]? with
    | none =>
      rw [hl] at hj
      subst hj
      trivial
    | some P =>
      rw [hl] at hj
      simp only [Option.getD_some] at hj
      subst hj
      exact P.mono (hs _ P hl) (fun i hi => ⟨hi.1, by simp only []; rw [hi.2]; exact hd.idxOf_getElem j hlt⟩)
  · rw [List.getElem?_eq_none hge] at hj
    cases hj

/-- The last two parts change places. -/
theorem SepO.swap {Q : Pr} (h : SepO W oo w (l ++ [P] ++ [Q])) : SepO W oo w (l ++ [Q] ++ [P]) := by
  obtain ⟨own, hkp, hs⟩ := h
  refine ⟨fun i => if own i = l.length then l.length + 1 else if own i = l.length + 1 then l.length else own i, hkp, fun j R hj => ?_⟩
  rcases Nat.lt_trichotomy j l.length with hlt | rfl | hgt
  · refine R.mono (hs j R ?_) (fun i hi => ⟨hi.1, by simp only []; rw [hi.2, if_neg (by omega), if_neg (by omega)]⟩)
    rw [List.append_assoc, List.getElem?_append_left hlt] at hj ⊢
    exact hj
  · have : R = Q := by simpa using hj.symm
    subst this
    exact R.mono (hs (l.length + 1) R (by simp)) (fun i hi => ⟨hi.1, by simp only []; rw [hi.2, if_neg (by omega), if_pos rfl]⟩)
  · by_cases hj1 : j = l.length + 1
    · subst hj1
      have : R = P := by simpa using hj.symm
      subst this
      exact R.mono (hs l.length R (by simp)) (fun i hi => ⟨hi.1, by simp only []; rw [hi.2, if_pos rfl]⟩)
    · rw [List.getElem?_eq_none (by simp; omega)] at hj
      cases hj
/-- One part in the midst goes. -/
theorem SepO.drop_mid (h : SepO W oo w (l ++ P :: m)) : SepO W oo w (l ++ m) := by
  obtain ⟨own, hkp, hs⟩ := h
  refine ⟨fun i => if own i < l.length then own i else if own i = l.length then l.length + m.length else own i - 1, hkp, fun j R hj => ?_⟩
  rcases Nat.lt_or_ge j l.length with hlt | hge
  · rw [List.getElem?_append_left hlt] at hj
    exact R.mono (hs j R (by rw [List.getElem?_append_left hlt]; exact hj)) (fun i hi => ⟨hi.1, by simp only []; rw [hi.2, if_pos hlt]⟩)
  · rw [List.getElem?_append_right hge] at hj
    exact R.mono (hs (j + 1) R (by rw [List.getElem?_append_right (by omega), show j + 1 - l.length = (j - l.length) + 1 by omega]; simpa using hj)) (fun i hi => ⟨hi.1, by simp only []; rw [hi.2, if_neg (by omega), if_neg (by omega)]; omega⟩)
theorem at_left {l m : List Pr} {i : Nat} (h : l[i]? = some P) : (l ++ m)[i]? = some P := by rw [List.getElem?_append_left (List.getElem?_eq_some_iff.1 h).1]; exact h
theorem at_last {l m : List Pr} : (l ++ P :: m)[l.length]? = some P := by simp
/-- Parts side by side, as one part. -/
def sepP (L : List Pr) : Pr :=
  ⟨fun w o => ∃ own : Nat → Nat, ∀ (k : Nat) (P : Pr), L[k]? = some P → P.p w (fun i => (o i ∧ i < w.heap.size) ∧ own i = k),
   fun h k hn => by
    obtain ⟨own, hs⟩ := h
    exact ⟨own, fun j P hj => P.mono (P.keep (hs j P hj) k (fun i h1 h2 => hn i h1.1.1 h2)) (fun i h => ⟨⟨h.1.1, Nat.lt_of_lt_of_le h.1.2 k.size⟩, h.2⟩)⟩,
   fun h hm => by
    obtain ⟨own, hs⟩ := h
    exact ⟨own, fun j P hj => P.mono (hs j P hj) (fun i h => ⟨⟨hm i h.1.1, h.1.2⟩, h.2⟩)⟩,
   fun h => by
    obtain ⟨own, hs⟩ := h
    exact ⟨own, fun j P hj => P.mono (hs j P hj) (fun i h => ⟨⟨h.1, h.1.2⟩, h.2⟩)⟩⟩
theorem SepO.enter {o : Nat → Prop} (h : (sepP l).p w o) : SepO w o w l := by
  obtain ⟨own, hs⟩ := h
  exact ⟨own, Keep.refl _ _, fun j P hj => P.mono (hs j P hj) (fun i h => ⟨⟨.inl h.1.1, h.1.2⟩, h.2⟩)⟩
theorem SepO.leave (h : SepO W oo w l) : (sepP l).p w (fun i => oo i ∨ W.heap.size ≤ i) := by
  obtain ⟨own, _, hs⟩ := h
  exact ⟨own, fun j P hj => P.mono (hs j P hj) (fun i h => ⟨⟨h.1.1, h.1.2⟩, h.2⟩)⟩
/-- A part that may be one of many. -/
def exP {α : Type} (F : α → Pr) : Pr :=
  ⟨fun w o => ∃ a, (F a).p w o, fun h k hn => h.imp fun a h => (F a).keep h k hn, fun h hs => h.imp fun a h => (F a).mono h hs, fun h => h.imp fun a h => (F a).bound h⟩
/-- A part of which something is known. -/
def andP (c : Prop) (P : Pr) : Pr :=
  ⟨fun w o => c ∧ P.p w o, fun h k hn => ⟨h.1, P.keep h.2 k hn⟩, fun h hs => ⟨h.1, P.mono h.2 hs⟩, fun h => ⟨h.1, P.bound h.2⟩⟩

/-- A block that is known whole. -/
def blkP (g : Nat) (t : TypeId) (cs : Array Value) : Pr :=
  ⟨fun w o => o g ∧ Blk w g t cs, fun h k hn => ⟨h.1, k.blk h.2 (fun x => hn _ h.1 x)⟩, fun h hs => ⟨hs _ h.1, h.2⟩, fun h => ⟨⟨h.1, h.2.lt⟩, h.2⟩⟩
/-- A row of one-cell elements. -/
def rowP (e : TypeId) (A : Option Addr) (n c : Nat) (xs : List Value) : Pr :=
  ⟨fun w o => QR w o e A n c xs, fun h k hn => h.keep k hn, fun h hs => h.mono hs, fun h => h.bound⟩
section
variable {g : Nat} {t e : TypeId} {cs : Array Value} {A : Option Addr} {n c : Nat} {xs : List Value}
theorem SepO.blk (h : SepO W oo w l) (k : Nat) (hk : l[k]? = some (blkP g t cs)) : Blk w g t cs := by obtain ⟨o, h1, _⟩ := h.get k hk; exact h1.2
theorem SepO.blk_lt (h : SepO W oo w l) (k : Nat) (hk : l[k]? = some (blkP g t cs)) : (oo g ∨ W.heap.size ≤ g) ∧ g < w.heap.size := by obtain ⟨o, h1, h2⟩ := h.get k hk; exact h2 _ h1.1
theorem SepO.set_blk (h : SepO W oo w l) (k : Nat) (hk : l[k]? = some (blkP g t cs)) (i : Nat) (u : Value) : SepO W oo (w.setCell ⟨g, i, none⟩ u) (l.set k (blkP g t (cs.setIfInBounds i u))) := by
  obtain ⟨o, ⟨h1, h2⟩, _, hup⟩ := h.open_ k hk
  exact hup _ _ ⟨.inl h1, h2.set_ i u⟩ ((Keep.refl _ _).set_ (.inl h1) _)
theorem SepO.set_mid (h : SepO W oo w (l ++ blkP g t cs :: m)) (i : Nat) (u : Value) : SepO W oo (w.setCell ⟨g, i, none⟩ u) (l ++ blkP g t (cs.setIfInBounds i u) :: m) := by
  have := h.set_blk l.length at_last i u
  rwa [List.set_append_right _ _ (Nat.le_refl _), Nat.sub_self, List.set_cons_zero] at this
theorem SepO.new_blk (h : SepO W oo w l) (t : TypeId) (cs : Array Value) : SepO W oo (w.alloc (.cells cs t)) (l ++ [blkP w.heap.size t cs]) :=
  h.add ((Keep.refl _ _).alloc _) ⟨Nat.le_refl _, Blk.new w t cs⟩
theorem SepO.new_row (h : SepO W oo w l) (t : TypeId) (cs : Array Value) (hc : cs.size ≤ 9223372036854775807) : SepO W oo (w.alloc (.cells cs t)) (l ++ [rowP t (some ⟨w.heap.size, 0, none⟩) cs.size cs.size cs.toList]) :=
  h.add ((Keep.refl _ _).alloc _) ⟨by simp, Nat.le_refl _, hc, .inr ⟨_, 0, cs, rfl, Nat.le_refl _, Blk.new w t cs, by simp, by simp [List.take_of_length_le]⟩⟩
theorem SepO.nil_row (h : SepO W oo w l) (t : TypeId) : SepO W oo w (l ++ [rowP t none 0 0 []]) := h.add (Keep.refl _ _) (QR.nil _ _ _)
theorem SepO.row (h : SepO W oo w l) (k : Nat) (hk : l[k]? = some (rowP e A n c xs)) : ∃ o, QR w o e A n c xs ∧ (∀ i, o i → (oo i ∨ W.heap.size ≤ i) ∧ i < w.heap.size) := h.get k hk
theorem SepO.sl {L : List Int} {k' : IntKind} (h : SepO W oo w l) (k : Nat) (hk : l[k]? = some (rowP e A L.length c (L.map (Value.int k')))) : ∃ o, SL w o k' (.slice A L.length c) L ∧ (∀ i, o i → (oo i ∨ W.heap.size ≤ i) ∧ i < w.heap.size) := by
  obtain ⟨o, h1, h2⟩ := h.row k hk
  exact ⟨o, h1.sl, h2⟩
/-- A row is cut behind. -/
theorem SepO.row_take (h : SepO W oo w l) (k : Nat) (hk : l[k]? = some (rowP e A n c xs)) {j : Nat} (hj : j ≤ n) : SepO W oo w (l.set k (rowP e A j c (xs.take j))) := by
  obtain ⟨o, h1, _, hup⟩ := h.open_ k hk
  exact hup w _ ((QR.take h1 hj).mono (fun i h => .inl h)) (Keep.refl _ _)
theorem SepO.row_tail (h : SepO W oo w l) (k : Nat) (hk : l[k]? = some (rowP e A n c xs)) (hn : 1 ≤ n) : SepO W oo w (l.set k (rowP e (if c = 1 then A else A.map (·.add 1)) (n - 1) (c - 1) (xs.drop 1))) := by
  obtain ⟨o, h1, _, hup⟩ := h.open_ k hk
  exact hup w _ ((QR.tail h1 hn).mono (fun i h => .inl h)) (Keep.refl _ _)
end

/-- 'x = append(x, u)' of a row that is a part: as one step of a walk. -/
theorem wpList_append_sep {G : Program} {ops : Array Oper} {rest : List Oper} {o : Oper} {a : Act} {Q : Exit → Act → World → Prop} (hgd : o.guard = none) (s x : Operand) (t : TypeId)
    (ho : o.op = .call { callee := .builtin .append, args := #[s, x], argTypes := #[t, t] })
    (e : TypeId) (i : TypeInfo) (z : Value) (bytes : Nat) (ht : G.underlying t = some (.slice e)) (hi : G.info? e = some i) (hz : i.zero = some z) (hs : i.size = 1) (hby : i.bytes = bytes) (hzc : z.cells.size = 1)
    (A : Option Addr) (n c : Nat) (xs : List Value) (hsv : a.eval s = .slice A n c) (B : Nat) (u : Value) (hxv : a.eval x = .slice (some ⟨B, 0, none⟩) 1 1)
    (h : SepO W oo w l) (k : Nat) (hk : l[k]? = some (rowP e A n c xs)) (hcell : w.cell? ⟨B, 0, none⟩ = some u) (h1 : u.oneCell' = true)
    (h63 : n + 1 ≤ 9223372036854775807) (hbytes : (n + 1) * bytes ≤ 140737488355328)
    (hw : ∀ A' c' w', SepO W oo w' (l.set k (rowP e A' (n + 1) c' (xs ++ [u]))) → wpList G ops Q rest (a.put o.dst (.slice A' (n + 1) c')) w') : wpList G ops Q (o :: rest) a w := by
  obtain ⟨ok, hq, _, hup⟩ := h.open_ k hk
  exact wpList_append_q hgd s x t ho e i z bytes ht hi hz hs hby hzc A n c xs hsv hq B u hxv hcell h1 h63 hbytes (fun A' c' w' hq' hkk => hw A' c' w' (hup w' (rowP e A' (n + 1) c' (xs ++ [u])) hq' hkk))
end
end Go.Proofs.Ytjgjablmkljfoaa.W
