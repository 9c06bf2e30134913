/- An arena that is filled, and its words as a list beside it. Condition: lists are lists of words. -/
import Derived.Test.YtfaffpmmjlddeaaObjLaws
import Derived.Test.YtfaffpmmjlddeaaRowCopy
set_option linter.unusedVariables false
set_option linter.unusedSimpArgs false
namespace Go.Proofs.Ytfaffpmmjlddeaa.Ob
open Go.RowKit Go.Proofs.Ytfaffpmmjlddeaa.W Go.Proofs.Ytfaffpmmjlddeaa.Ar Go.Proofs.Ytfaffpmmjlddeaa.Hea

theorem filled_at (n s : Int) {W w : World} (kw : Keep (fun _ => False) W w) (n0 : 0 ≤ n) (n1 : n ≤ 200) (hs : w64 s) : Calls Try.prog 22 #[.int .u8 n, .int .u64 s] w fun e w' =>
    ∃ (b G H : Nat) (v : Value) (ws : List Int), e = .returned (.tuple #[.pointer (some ⟨b, 0, none⟩), v]) ∧ (ws.length : Int) = n ∧ OAt W w.heap.size G w' b ws ∧ SL w' (fun i => G ≤ i ∧ i < H) .u64 v ws ∧ Keep (fun _ => False) w w' ∧ w.heap.size ≤ G ∧ H ≤ w'.heap.size ∧ (∀ i : Nat, w64 (ws[i]?.getD 0)) :=
  (filled_calls n s w n0 n1 hs).mono fun e w' ⟨b, G, v, ws, he, hl, hr, hv, hk, hG⟩ => by
    by_cases hGs : G ≤ w'.heap.size
    · exact ⟨b, G, _, v, ws, he, hl, ⟨hr, kw.trans hk (fun i h => .inl h), kw.size, hGs⟩, hv, hk, hG, Nat.le_refl _, hr.2⟩
    · refine ⟨b, w'.heap.size, w'.heap.size, v, ws, he, hl, ⟨hr.bound.mono (fun i h => ⟨h.1.1, h.2⟩), kw.trans hk (fun i h => .inl h), kw.size, Nat.le_refl _⟩, ?_, hk, hk.size, Nat.le_refl _, hr.2⟩
      exact hv.mono (fun i h => by omega)
theorem words_at {W w : World} {lo hi b : Nat} {ws : List Int} (h : OAt W lo hi w b ws) (hl : ws.length ≤ 200) : Calls Try.prog 27 #[.pointer (some ⟨b, 0, none⟩)] w fun e w' =>
    ∃ v, e = .returned v ∧ SL w' (fun i => w.heap.size ≤ i ∧ i < w'.heap.size) .u64 v ws ∧ OAt W lo hi w' b ws ∧ Keep (fun i => lo ≤ i ∧ i < hi) w w' :=
  (words_calls h.1 hl).mono fun e w' ⟨v, he, hv, hr, hk⟩ => ⟨v, he, hv, h.go hr hk, hk⟩
theorem same_r {ok ok' : Nat → Prop} {l l' : List Int} {v v' : Value} (w : World) (h : SL w ok .u64 v l) (h' : SL w ok' .u64 v' l') (e : l = l') : Calls Try.prog 26 #[v, v'] w fun e w' => e = .returned (.bool true) ∧ ∃ n, w' = w.drewN n :=
  (same_calls w h h').mono fun e' w' ⟨h1, h2⟩ => ⟨by rw [h1, decide_eq_true e], h2⟩
theorem zro_next {ws : List Int} {i k : Nat} (hk : i + k < ws.length) : (zro ws i k).set (i + k) 0 = zro ws i (k + 1) := by
  apply List.ext_getElem?
  intro x
  by_cases e : i + k = x
  · subst e
    rw [List.getElem?_set_self (by rw [zro_len (by omega)]; omega), zro_get (by omega), if_pos (by omega)]
  · rw [List.getElem?_set_ne e, zro_get (by omega), zro_get (by omega)]
    by_cases c : i ≤ x ∧ x < i + k
    · rw [if_pos c, if_pos (by omega)]
    · rw [if_neg c, if_neg (by omega)]
theorem zro_none (ws : List Int) (i : Nat) : zro ws i 0 = ws := by simp [zro]
/-- A row of words of the law's own. -/
def UR (w : World) (lo : Nat) (A : Option Addr) (c : Nat) (l : List Int) : Prop := QR w (fun i => lo ≤ i ∧ i < w.heap.size) 24 A l.length c (l.map (Value.int .u64))
theorem UR.keep {w w' : World} {lo : Nat} {A : Option Addr} {c : Nat} {l : List Int} {ok : Nat → Prop} (h : UR w lo A c l) (hk : Keep ok w w') (hn : ∀ i, lo ≤ i ∧ i < w.heap.size → ok i → False) : UR w' lo A c l :=
  (QR.keep h hk hn).mono (fun i h => ⟨h.1, Nat.lt_of_lt_of_le h.2 hk.size⟩)
theorem UR.sl {w : World} {lo : Nat} {A : Option Addr} {c : Nat} {l : List Int} (h : UR w lo A c l) : SL w (fun i => lo ≤ i ∧ i < w.heap.size) .u64 (.slice A l.length c) l := QR.sl h
theorem UR.write {w : World} {lo : Nat} {A : Option Addr} {c : Nat} {l : List Int} (h : UR w lo A c l) {i : Nat} (hi : i < l.length) : ∃ g off, A = some ⟨g, off, none⟩ ∧ lo ≤ g ∧ g < w.heap.size ∧ w.cell? ⟨g, off + i, none⟩ = some (.int .u64 (l[i]?.getD 0)) ∧ w.frozen? ⟨g, off + i, none⟩ = false ∧ ∀ x, UR (w.setCell ⟨g, off + i, none⟩ (.int .u64 x)) lo A c (l.set i x) := by
  obtain ⟨g, off, hA, hg, hl, hc, hf, hs⟩ := QR.write h hi
  refine ⟨g, off, hA, hg.1, hl, by rw [hc]; simp [hi], hf, fun x => ?_⟩
  have := hs (.int .u64 x)
  unfold UR
  rw [List.length_set, List.map_set]
  exact this.mono (fun i h => ⟨h.1, by simpa [World.setCell] using h.2⟩)
theorem UR.at_ {w : World} {lo g off c : Nat} {l : List Int} (h : UR w lo (some ⟨g, off, none⟩) c l) {i : Nat} (hi : i < l.length) : w.cell? ⟨g, off + i, none⟩ = some (.int .u64 (l[i]?.getD 0)) ∧ w.frozen? ⟨g, off + i, none⟩ = false ∧ ∀ x, UR (w.setCell ⟨g, off + i, none⟩ (.int .u64 x)) lo (some ⟨g, off, none⟩) c (l.set i x) := by
  obtain ⟨g', off', hA, _, _, hc, hf, hs⟩ := UR.write h hi
  injection hA with hA
  injection hA with h1 h2
  subst h1 h2
  exact ⟨hc, hf, hs⟩
end Go.Proofs.Ytfaffpmmjlddeaa.Ob
