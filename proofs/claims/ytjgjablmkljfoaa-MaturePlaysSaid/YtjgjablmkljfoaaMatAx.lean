/- The pages of awake are what pages may be. No condition. -/
import Derived.Test.YtjgjablmkljfoaaMatAw
set_option linter.unusedVariables false
set_option linter.unusedSimpArgs false
namespace Go.Proofs.Ytjgjablmkljfoaa.Ma
open Go.RowKit Go.Proofs.Ytjgjablmkljfoaa.W Go.Proofs.Ytjgjablmkljfoaa.Cl

theorem MW.of {f n : Int} {l : List Pg} {lg : List (Pg × Nat)} (e : lg.map (·.1) = l) (hf : 0 ≤ f ∧ f ≤ 1048576) (hn : 1 ≤ n ∧ n ≤ 256) (hl : l.length ≤ 64) (hp : ∀ p ∈ l, p.ok n) (hb : ∀ (i : Nat) p, l[i]? = some p → p.kind = 2 → (i : Int) + pgs n p.size ≤ l.length) : MW f n lg := by
  subst e
  refine ⟨hf.1, hf.2, hn.1, hn.2, by simpa using hl, fun p h => hp p.1 (List.mem_map_of_mem h), fun i p h hk => ?_⟩
  have := hb i p.1 (by rw [List.getElem?_map, h]; rfl) hk
  simpa using this
theorem of4 {l : List Pg} {a b c d : Pg} (e : l = [a, b, c, d]) {n : Int} (h : a.ok n ∧ b.ok n ∧ c.ok n ∧ d.ok n) (k : (a.kind = 2 → 0 + pgs n a.size ≤ 4) ∧ (b.kind = 2 → 1 + pgs n b.size ≤ 4) ∧ (c.kind = 2 → 2 + pgs n c.size ≤ 4) ∧ (d.kind = 2 → 3 + pgs n d.size ≤ 4)) :
    (∀ p ∈ l, p.ok n) ∧ ∀ (i : Nat) p, l[i]? = some p → p.kind = 2 → (i : Int) + pgs n p.size ≤ l.length := by
  subst e
  obtain ⟨h1, h2, h3, h4⟩ := h
  obtain ⟨k1, k2, k3, k4⟩ := k
  refine ⟨fun p hp => ?_, fun i p hp hk => ?_⟩
  · simp at hp
    rcases hp with rfl | rfl | rfl | rfl <;> assumption
  · match i with
    | 0 => simp at hp; subst hp; exact k1 hk
    | 1 => simp at hp; subst hp; exact k2 hk
    | 2 => simp at hp; subst hp; exact k3 hk
    | 3 => simp at hp; subst hp; exact k4 hk
    | i + 4 => simp at hp
theorem ok_fre (n : Int) : fre.ok n := .inr ⟨by decide, rfl, by decide, by decide, fun h => absurd h (by decide)⟩
theorem ok_more (n : Int) : more.ok n := .inr ⟨by decide, rfl, by decide, by decide, fun h => absurd h (by decide)⟩
theorem mw0 {lg : List (Pg × Nat)} (e : lg.map (·.1) = w0) : MW 100 16 lg :=
  have h := of4 (l := w0) rfl (n := 16) ⟨ok_fre _, ok_fre _, ok_fre _, ok_fre _⟩ (by decide)
  MW.of e (by decide) (by decide) (by decide) h.1 h.2
theorem mw1 {lg : List (Pg × Nat)} (e : lg.map (·.1) = w1) : MW 100 16 lg :=
  have h := of4 (l := w1) rfl (n := 16) ⟨.inl (by decide), ok_fre _, ok_fre _, ok_fre _⟩ (by decide)
  MW.of e (by decide) (by decide) (by decide) h.1 h.2
theorem mw2 {lg : List (Pg × Nat)} (e : lg.map (·.1) = w2) : MW 100 16 lg :=
  have h := of4 (l := w2) rfl (n := 16) ⟨.inl (by decide), .inr (by decide), ok_more _, ok_fre _⟩ (by decide)
  MW.of e (by decide) (by decide) (by decide) h.1 h.2
theorem mw3 {lg : List (Pg × Nat)} (e : lg.map (·.1) = w3) : MW 100 16 lg :=
  have h := of4 (l := w3) rfl (n := 16) ⟨.inl (by decide), .inr (by decide), ok_more _, ok_fre _⟩ (by decide)
  MW.of e (by decide) (by decide) (by decide) h.1 h.2
theorem mw4 {lg : List (Pg × Nat)} (e : lg.map (·.1) = w4) : MW 100 16 lg :=
  have h := of4 (l := w4) rfl (n := 16) ⟨.inl (by decide), .inr (by decide), ok_more _, ok_fre _⟩ (by decide)
  MW.of e (by decide) (by decide) (by decide) h.1 h.2
end Go.Proofs.Ytjgjablmkljfoaa.Ma
