/- RemsetAll's plain law: what was taken in is told. No condition. -/
import Derived.Test.YtpohemiejbjpnaaMarkMap
set_option linter.unusedVariables false
set_option linter.unusedSimpArgs false
namespace Go.Proofs.Ytpohemiejbjpnaa.Re
open Go.RowKit Go.Proofs.Ytpohemiejbjpnaa.W Go.Proofs.Ytpohemiejbjpnaa.Cd Go.Proofs.Ytpohemiejbjpnaa.Bf Go.Proofs.Ytpohemiejbjpnaa.Sm

theorem zero_int (w : World) : (zeroValue 3).run Try.prog w = .ok (.int .i64 0) w := by kernel_rfl
/-- A map that counts. -/
def CM (al : List (Int × Value)) (C : Int → Int) : Prop := ∀ x : Int, (mget al x).getD (.int .i64 0) = .int .i64 (C x)
def upd (C : Int → Int) (a : Int) : Int → Int := fun x => if x = a then C a + 1 else C x
theorem CM.new : CM [] (fun _ => 0) := fun x => rfl
theorem CM.step {al : List (Int × Value)} {C : Int → Int} (h : CM al C) (a : Int) : CM (mput al a (.int .i64 (C a + 1))) (upd C a) := fun x => by
  unfold upd
  by_cases hx : x = a
  · subst hx; rw [mget_put_same, if_pos rfl]; rfl
  · rw [mget_put_other _ hx, if_neg hx]; exact h x

abbrev rs (mo : Int) (nl : List Int) (nm : List Bool) (tl : List Int) (tm : List Bool) : RS := ⟨50, 1000, 32, mo, nl, nm, tl, tm⟩
theorem rs_inn {mo : Int} {nl : List Int} {nm : List Bool} {tl : List Int} {tm : List Bool} (a : Int) : (rs mo nl nm tl tm).inn a = (decide (50 ≤ a) && decide (a < 1050)) := rfl
theorem rs_none : (Cd.none_ 50 1000 (Cd.clamp1 32)).m = List.replicate 32 false := rfl
theorem rs_flip (mo : Int) (nl : List Int) (nm : List Bool) (tl : List Int) (tm : List Bool) (h : (rs mo nl nm tl tm).left = 0) : (rs mo nl nm tl tm).flip = rs mo [] (List.replicate 32 false) nl nm := by
  unfold RS.flip
  rw [if_neg (by omega)]
  show (⟨50, 1000, 32, mo, [], (Cd.none_ 50 1000 (Cd.clamp1 32)).m, nl, nm⟩ : RS) = _
  rw [rs_none]
def cell (a : Int) : Nat := ((a - 50) / 32).toNat
theorem cell_lt {a : Int} (h0 : 50 ≤ a) (h1 : a < 1050) : cell a < 32 := by unfold cell; omega
/-- What was taken in, C times each, is in the row or marked. -/
def P1 (C : Int → Int) (nl : List Int) (nm : List Bool) : Prop :=
  nm.length = 32 ∧ (∀ x, (nl.count x : Int) ≤ C x) ∧ (∀ x, 0 < C x → (50 ≤ x ∧ x < 1050) ∧ (x ∈ nl ∨ nm[cell x]?.getD false = true)) ∧ ∀ x, 0 ≤ C x
theorem P1.new : P1 (fun _ => 0) [] (List.replicate 32 false) := ⟨by simp, fun x => by simp, fun x h => absurd h (by simp), fun x => Int.le_refl 0⟩
theorem P1.step {C : Int → Int} {nl : List Int} {nm : List Bool} (h : P1 C nl nm) (mo : Int) {a : Int} (h0 : 50 ≤ a) (h1 : a < 1050) (tl : List Int) (tm : List Bool) :
    ∃ nl' nm', (rs mo nl nm tl tm).add a = rs mo nl' nm' tl tm ∧ P1 (upd C a) nl' nm' ∧ nl'.length + nm'.count true ≤ nl.length + nm.count true + 1 := by
  obtain ⟨p1, p2, p3, p4⟩ := h
  have hin : (rs mo nl nm tl tm).inn a = true := by rw [rs_inn]; simp; omega
  have hc := cell_lt h0 h1
  have hof : ((ncd (rs mo nl nm tl tm)).of_ a).toNat = cell a := by rw [of_in (by show (50 : Int) ≤ a; exact h0) (by show a < 50 + 1000; omega)]; rfl
  have hu : ∀ x, C x ≤ upd C a x := fun x => by unfold upd; split <;> first | (rename_i e; subst e; omega) | omega
  have hu0 : ∀ x, 0 ≤ upd C a x := fun x => Int.le_trans (p4 x) (hu x)
  by_cases hf : (nl.length : Int) < Bf.clampN mo
  · refine ⟨nl ++ [a], nm, ?_, ⟨p1, fun x => ?_, fun x hx => ?_, hu0⟩, by simp; omega⟩
    · unfold RS.add; rw [hin, if_pos rfl, if_pos hf]
    · have := p2 x
      rw [List.count_append]
      unfold upd
      by_cases hxa : x = a
      · subst hxa; rw [if_pos rfl]; simp; omega
      · rw [if_neg hxa]; simp [List.count_cons, Ne.symm hxa]; omega
    · by_cases hxa : x = a
      · subst hxa; exact ⟨⟨h0, h1⟩, .inl (by simp)⟩
      · unfold upd at hx
        rw [if_neg hxa] at hx
        obtain ⟨q1, q2⟩ := p3 x hx
        exact ⟨q1, q2.imp (fun h => List.mem_append_left _ h) id⟩
  · refine ⟨nl, nm.set (cell a) true, ?_, ⟨by simpa using p1, fun x => Int.le_trans (p2 x) (hu x), fun x hx => ?_, hu0⟩, ?_⟩
    · unfold RS.add; rw [hin, if_pos rfl, if_neg hf, hof]
    · by_cases hxa : x = a
      · subst hxa; exact ⟨⟨h0, h1⟩, .inr (by simp [show cell x < nm.length by omega])⟩
      · unfold upd at hx
        rw [if_neg hxa] at hx
        obtain ⟨q1, q2⟩ := p3 x hx
        refine ⟨q1, q2.imp id (fun h => ?_)⟩
        by_cases hcx : cell a = cell x
        · rw [← hcx]; simp [show cell a < nm.length by omega]
        · rw [List.getElem?_set_ne hcx]; exact h
    · have := cnt_set nm (cell a) (by omega)
      split at this <;> omega
/-- .. is in the row, marked, or told; T times each. -/
def P2 (C T : Int → Int) (tl : List Int) (tm : List Bool) : Prop :=
  tm.length = 32 ∧ (tl ≠ [] → ∀ x, T x + tl.count x ≤ C x) ∧ (∀ x, 0 < C x → (50 ≤ x ∧ x < 1050) ∧ (x ∈ tl ∨ tm[cell x]?.getD false = true ∨ 0 < T x)) ∧ ∀ x, 0 ≤ T x
theorem P1.turn {C : Int → Int} {nl : List Int} {nm : List Bool} (h : P1 C nl nm) : P2 C (fun _ => 0) nl nm := by
  obtain ⟨p1, p2, p3, p4⟩ := h
  exact ⟨p1, fun _ x => by have := p2 x; show (0 : Int) + _ ≤ _; omega, fun x hx => by obtain ⟨q1, q2⟩ := p3 x hx; exact ⟨q1, q2.imp id .inl⟩, fun x => Int.le_refl 0⟩
def tel (T : Int → Int) (F E : Int) : Int → Int := fun x => T x + if F ≤ x ∧ x < E then 1 else 0
theorem P2.step {C T : Int → Int} {tl : List Int} {tm : List Bool} (h : P2 C T tl tm) (mo : Int) (nl : List Int) (nm : List Bool) (hl : 0 < (rs mo nl nm tl tm).left) :
    ∃ F E p tl' tm', (rs mo nl nm tl tm).said = ((F, E), (p, true)) ∧ (rs mo nl nm tl tm).next = rs mo nl nm tl' tm' ∧ (0 ≤ F ∧ F ≤ E ∧ E ≤ F + 32 ∧ E ≤ 2000) ∧ (p = false → E = F + 1 ∧ T F + 1 ≤ C F) ∧ P2 C (tel T F E) tl' tm' ∧ tl'.length + tm'.count true + 1 = tl.length + tm.count true := by
  obtain ⟨p1, p2, p3, p4⟩ := h
  have ht : ∀ F E x, T x ≤ tel T F E x := fun F E x => by unfold tel; split <;> omega
  have ht0 : ∀ F E x, 0 ≤ tel T F E x := fun F E x => Int.le_trans (p4 x) (ht F E x)
  cases tl with
  | cons a L =>
    have ha := p2 (by simp) a
    have ha0 := p4 a
    rw [List.count_cons] at ha
    simp at ha
    have hca : 0 < C a := by omega
    obtain ⟨⟨r1, r2⟩, _⟩ := p3 a hca
    refine ⟨a, a + 1, false, L, tm, rfl, rfl, by omega, fun _ => ⟨rfl, by omega⟩, ⟨p1, fun hL x => ?_, fun x hx => ?_, ht0 _ _⟩, by simp; omega⟩
    · have := p2 (by simp) x
      rw [List.count_cons] at this
      unfold tel
      by_cases hxa : x = a
      · subst hxa; simp at this; rw [if_pos (by omega)]; omega
      · have h2 : (a == x) = false := by simpa using Ne.symm hxa
        rw [h2] at this
        simp at this
        rw [if_neg (by omega)]; omega
    · obtain ⟨q1, q2⟩ := p3 x hx
      refine ⟨q1, ?_⟩
      rcases q2 with q2 | q2 | q2
      · rcases List.mem_cons.1 q2 with rfl | q2
        · right; right; unfold tel; rw [if_pos (by omega)]; omega
        · exact .inl q2
      · exact .inr (.inl q2)
      · exact .inr (.inr (Int.lt_of_lt_of_le q2 (ht _ _ x)))
  | nil =>
    cases hf : fstI tm with
    | none =>
      have h1 := none_cnt (hf ▸ fstI_spec tm)
      simp [RS.left, h1] at hl
    | some k =>
      have hspec := fstI_spec tm
      rw [hf] at hspec
      obtain ⟨f1, f2, f3, f4⟩ := hspec
      have hcu := cnt_unset tm k f3
      have hpart : (tcd (rs mo nl nm [] tm)).part (k : Int) = (50 + 32 * (k : Int), 50 + (if 1000 < 32 * (k : Int) + 32 then 1000 else 32 * (k : Int) + 32)) := by
        unfold Cd.part
        rw [if_pos ⟨by omega, by simp only [p1]; omega⟩]
        simp only [show Cd.clamp1 32 = 32 from by decide]
        rw [show ((k : Int) + 1) * 32 = 32 * (k : Int) + 32 by omega, Int.mul_comm (k : Int) 32]
      refine ⟨50 + 32 * (k : Int), 50 + (if 1000 < 32 * (k : Int) + 32 then 1000 else 32 * (k : Int) + 32), true, [], tm.set k false, by simp only [RS.said, hf, hpart], by simp only [RS.next, hf], by split <;> omega, (fun h => Bool.noConfusion h), ⟨by simpa using p1, (fun h => absurd rfl h), fun x hx => ?_, ht0 _ _⟩, by simp; omega⟩
      obtain ⟨q1, q2⟩ := p3 x hx
      refine ⟨q1, ?_⟩
      rcases q2 with q2 | q2 | q2
      · cases q2
      · by_cases hxk : cell x = k
        · right; right
          unfold tel
          have : 50 + 32 * (k : Int) ≤ x ∧ x < 50 + (if 1000 < 32 * (k : Int) + 32 then 1000 else 32 * (k : Int) + 32) := by
            rw [← hxk]; unfold cell; split <;> omega
          rw [if_pos this]
          have := p4 x
          omega
        · right; left
          rw [List.getElem?_set_ne (Ne.symm hxk)]
          exact q2
      · exact .inr (.inr (Int.lt_of_lt_of_le q2 (ht _ _ x)))
theorem P2.done {C T : Int → Int} {tl : List Int} {tm : List Bool} (h : P2 C T tl tm) (h0 : tl.length + tm.count true = 0) : ∀ x, 0 < C x → 0 < T x := by
  obtain ⟨p1, p2, p3, p4⟩ := h
  intro x hx
  rcases (p3 x hx).2 with q | q | q
  · have : tl = [] := List.eq_nil_of_length_eq_zero (by omega)
    subst this; cases q
  · have hm : tm.count true = 0 := by omega
    rw [List.count_eq_zero] at hm
    rcases Nat.lt_or_ge (cell x) tm.length with hl | hl
    · rw [List.getElem?_eq_getElem hl] at q
      exact absurd (by simpa using q ▸ List.getElem_mem hl : true ∈ tm) hm
    · rw [List.getElem?_eq_none hl] at q; cases q
  · exact q
end Go.Proofs.Ytpohemiejbjpnaa.Re
