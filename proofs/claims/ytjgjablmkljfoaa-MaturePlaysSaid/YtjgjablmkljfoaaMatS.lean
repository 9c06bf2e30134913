/- MatureApart as a contract. Condition: the sizes are words of 16 bits. -/
import Derived.Test.YtjgjablmkljfoaaMatR
set_option linter.unusedVariables false
set_option linter.unusedSimpArgs false
namespace Go.Proofs.Ytjgjablmkljfoaa.Ma
open Go.RowKit Go.Proofs.Ytjgjablmkljfoaa.W Go.Proofs.Ytjgjablmkljfoaa.Cl
/-- A space in which just what is listed is in use. -/
structure AI (f n : Int) (p : Nat) (s : MS) (D : List Int) : Prop where
  si : SI s
  f : s.f = f
  w : s.w = n
  len : s.l.length = p
  nodup : D.Nodup
  mem : ∀ x, s.has x = true ↔ x ∈ D
theorem has_use {s : MS} (hs : s.ok) {x : Int} (h : s.has x = true) : ∃ i k p, Use s x i k p ∧ s.size x = szP s.w p := by
  obtain ⟨i, k, p, hu⟩ := (has_iff hs).1 h
  exact ⟨i, k, p, hu, use_size hs hu⟩
theorem ai_take {f n : Int} {p : Nat} {s : MS} {D : List Int} (h : AI f n p s D) {x a : Int} (hx : x ≤ 1099511627776) (ht : s.took x = some a) :
    AI f n p (s.take x) (D ++ [a]) ∧ (s.take x).has a = true ∧ x ≤ (s.take x).size a ∧ f ≤ a ∧ a + (s.take x).size a ≤ f + p * n ∧ (∀ y ∈ D, (s.take x).has y = true ∧ (y + (s.take x).size y ≤ a ∨ a + (s.take x).size a ≤ y)) := by
  have t := take_spec h.si (by omega) ht
  have hm : ∀ y, (s.take x).has y = true ↔ y ∈ D ++ [a] := fun y => by
    rw [has_iff t.si.ok, List.mem_append, ← h.mem, has_iff h.si.ok]
    constructor
    · rintro ⟨i, k, q, hu⟩
      rcases t.only _ _ _ _ hu with e | ⟨q', hq⟩
      · right; simpa using e
      · exact .inl ⟨i, k, q', hq⟩
    · rintro (⟨i, k, q, hu⟩ | e)
      · obtain ⟨_, q', hq, _⟩ := t.old _ _ _ _ hu
        exact ⟨i, k, q', hq⟩
      · obtain ⟨i, k, q, hu, _⟩ := t.new
        simp only [List.mem_singleton] at e
        subst e
        exact ⟨i, k, q, hu⟩
  have hna : a ∉ D := fun e => by
    obtain ⟨i, k, q, hu⟩ := (has_iff h.si.ok).1 ((h.mem a).2 e)
    exact (t.old _ _ _ _ hu).1 rfl
  obtain ⟨i, k, q, hu, hsz, _⟩ := t.new
  have es := use_size t.si.ok hu
  have eb := use_end t.si.ok hu
  rw [t.f, t.w, t.len, h.f, h.w, h.len] at eb
  rw [t.w, h.w] at es
  have hsz' := hsz (by omega)
  rw [h.w] at hsz'
  refine ⟨⟨t.si, t.f.trans h.f, t.w.trans h.w, t.len.trans h.len, ?_, hm⟩, (hm a).2 (by simp), by rw [es]; exact hsz', eb.1, by rw [es]; exact eb.2, fun y hy => ?_⟩
  · rw [List.nodup_append]
    exact ⟨h.nodup, by simp, fun x hx y hy e => by simp at hy; subst hy; subst e; exact hna hx⟩
  · have hhy : (s.take x).has y = true := (hm y).2 (by simp [hy])
    obtain ⟨j, m, r, hv, ev⟩ := has_use t.si.ok hhy
    refine ⟨hhy, ?_⟩
    have := use_apart t.si hv hu (fun e => by subst e; exact hna hy)
    rw [ev, es, ← h.w, ← t.w]
    exact this
theorem ai_give {f n : Int} {p : Nat} {s : MS} {a : Int} {D : List Int} (h : AI f n p s (a :: D)) : s.has a = true ∧ AI f n p (s.give a) D := by
  have ha : s.has a = true := (h.mem a).2 List.mem_cons_self
  obtain ⟨i, k, q, hu⟩ := (has_iff h.si.ok).1 ha
  have g := give_spec h.si hu
  refine ⟨ha, g.si, g.f.trans h.f, g.w.trans h.w, g.len.trans h.len, (List.nodup_cons.1 h.nodup).2, fun y => ?_⟩
  have hn := (List.nodup_cons.1 h.nodup).1
  rw [has_iff g.si.ok]
  constructor
  · rintro ⟨j, m, r, hv⟩
    obtain ⟨e, r', hr⟩ := g.only _ _ _ _ hv
    have := (h.mem y).1 ((has_iff h.si.ok).2 ⟨j, m, r', hr⟩)
    rcases List.mem_cons.1 this with e2 | e2
    · exact absurd e2 e
    · exact e2
  · intro hy
    obtain ⟨j, m, r, hv⟩ := (has_iff h.si.ok).1 ((h.mem y).2 (List.mem_cons_of_mem _ hy))
    obtain ⟨r', hr, _⟩ := g.old _ _ _ _ hv (fun e => by subst e; exact hn hy)
    exact ⟨j, m, r', hr⟩
theorem ai_none {f n : Int} {p : Nat} {s : MS} (h : AI f n p s []) : ∀ x, s.has x = false := fun x => by
  cases e : s.has x
  · rfl
  · exact absurd ((h.mem x).1 e) (by simp)
theorem ai_new {f n : Int} {p : Nat} (h0 : 0 ≤ f ∧ f ≤ 1048576) (h1 : 1 ≤ n ∧ n ≤ 256) (h2 : p ≤ 64) : AI f n p (mnew f p n) [] := by
  have e1 : cut3 0 1048576 f = f := by unfold cut3; rw [if_neg (by omega), if_neg (by omega)]
  have e2 : cut3 1 256 n = n := by unfold cut3; rw [if_neg (by omega), if_neg (by omega)]
  have e3 : cut3 0 64 (p : Int) = p := by unfold cut3; rw [if_neg (by omega), if_neg (by omega)]
  refine ⟨si_new _ _ _, e1, e2, by simp [mnew, e3], List.nodup_nil, fun x => ⟨fun h => ?_, fun h => absurd h (by simp)⟩⟩
  obtain ⟨i, k, q, hq, hu⟩ := (has_iff (mnew_ok _ _ _)).1 h
  have := List.eq_of_mem_replicate (List.mem_of_getElem? hq)
  rw [this] at hu
  rcases hu with ⟨h, _⟩ | ⟨h, _⟩ <;> exact absurd h (by decide)
end Go.Proofs.Ytjgjablmkljfoaa.Ma
