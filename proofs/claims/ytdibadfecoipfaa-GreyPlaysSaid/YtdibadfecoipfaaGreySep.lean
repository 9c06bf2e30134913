/- Stacks as parts of memory. No condition. -/
import Derived.Test.YtdibadfecoipfaaGreyLaws
import Derived.Test.YtdibadfecoipfaaSep
set_option linter.unusedVariables false
set_option linter.unusedSimpArgs false
namespace Go.Proofs.Ytdibadfecoipfaa.Gy
open Go.RowKit Go.Proofs.Ytdibadfecoipfaa.W Go.Proofs.Ytdibadfecoipfaa.Sm

def Stk (b : Nat) (most : Int) (L : List Int) (lost : Bool) : Pr := ⟨fun w o => GRep w o b most L lost, fun h k hn => h.keep k hn, fun h hs => h.mono hs, fun h => h.bound⟩
section
variable {W w : World} {l : List Pr} {b : Nat} {most : Int} {L : List Int} {lost : Bool}
theorem Stk_b (h : Sep W w l) (k : Nat) (hk : l[k]? = some (Stk b most L lost)) : (L.length : Int) ≤ most ∧ 0 ≤ most ∧ most ≤ 1048576 := by
  obtain ⟨o, ⟨A, c, _, h0, h1, h2, _⟩, _⟩ := h.get k hk
  exact ⟨h2, h0, h1⟩
theorem New_sep (n : Int) (h : Sep W w l) : Calls Try.prog 19 #[.int .i64 n] w fun e w' => ∃ b, e = .returned (.pointer (some ⟨b, 0, none⟩)) ∧ Sep W w' (l ++ [Stk b (clampN n) [] false]) :=
  (New_calls n w).mono fun e w' ⟨b, he, hr, hk⟩ => ⟨b, he, h.add hk hr⟩
theorem Len_sep (h : Sep W w l) (k : Nat) (hk : l[k]? = some (Stk b most L lost)) : Calls Try.prog 25 #[.pointer (some ⟨b, 0, none⟩)] w fun e w' => e = .returned (.int .i64 L.length) ∧ w = w' := by
  obtain ⟨o, hp, _, hup⟩ := h.open_ k hk
  exact Len_calls w hp
theorem Lost_sep (h : Sep W w l) (k : Nat) (hk : l[k]? = some (Stk b most L lost)) : Calls Try.prog 24 #[.pointer (some ⟨b, 0, none⟩)] w fun e w' => e = .returned (.bool lost) ∧ Sep W w' l := by
  obtain ⟨o, hp, _, hup⟩ := h.open_ k hk
  exact (Lost_calls w hp).mono fun e w' ⟨he, n, hw⟩ => ⟨he, hw ▸ h.drewN n⟩
theorem Found_sep (h : Sep W w l) (k : Nat) (hk : l[k]? = some (Stk b most L lost)) : Calls Try.prog 22 #[.pointer (some ⟨b, 0, none⟩)] w fun e w' => e = .returned (.tuple #[]) ∧ Sep W w' (l.set k (Stk b most L false)) := by
  obtain ⟨o, hp, _, hup⟩ := h.open0 k hk
  exact (Found_calls w hp).mono fun e w' ⟨he, hr, hkk⟩ => ⟨he, hup w' (Stk b most L false) hr hkk⟩
theorem Push_sep (x : Int) (h : Sep W w l) (k : Nat) (hk : l[k]? = some (Stk b most L lost)) : Calls Try.prog 20 #[.pointer (some ⟨b, 0, none⟩), .int .i64 x] w fun e w' =>
    e = .returned (.bool (decide ((L.length : Int) < most))) ∧ Sep W w' (l.set k (Stk b most (putL L most x) (lost || decide (most ≤ (L.length : Int))))) := by
  obtain ⟨o, hp, _, hup⟩ := h.open_ k hk
  exact (Push_calls x w hp).mono fun e w' ⟨he, hr, hkk⟩ => ⟨he, hup w' (Stk _ _ _ _) hr hkk⟩
theorem Pop_sep (h : Sep W w l) (k : Nat) (hk : l[k]? = some (Stk b most L lost)) : Calls Try.prog 21 #[.pointer (some ⟨b, 0, none⟩)] w fun e w' =>
    e = .returned (.tuple #[.int .i64 (last0 L), .bool (some0 L)]) ∧ Sep W w' (l.set k (Stk b most (L.take (L.length - 1)) lost)) := by
  obtain ⟨o, hp, _, hup⟩ := h.open0 k hk
  exact (Pop_calls w hp).mono fun e w' ⟨he, hr, hkk⟩ => ⟨he, hup w' (Stk _ _ _ _) hr hkk⟩
theorem All_sep (h : Sep W w l) (k : Nat) (hk : l[k]? = some (Stk b most L lost)) : Calls Try.prog 26 #[.pointer (some ⟨b, 0, none⟩)] w fun e w' =>
    ∃ A c, e = .returned (.slice A L.length c) ∧ SL w' (fun i => w.heap.size ≤ i) .i64 (.slice A L.length c) L ∧ Sep W w' l ∧ w.heap.size ≤ w'.heap.size := by
  obtain ⟨o, hp, _, hup⟩ := h.open_ k hk
  exact (All_calls w hp).mono fun e w' ⟨A, c, he, hs, hkk⟩ => ⟨A, c, he, hs, h.stay hkk, hkk.size⟩
theorem Put_sep {ok' : Nat → Prop} {v : Value} {M : List Int} (h : Sep W w l) (k : Nat) (hk : l[k]? = some (Stk b most L lost)) (hl : SL w ok' .i64 v M) (hn : ∀ i, ok' i → i < W.heap.size) :
    Calls Try.prog 23 #[.pointer (some ⟨b, 0, none⟩), v] w fun e w' => e = .returned (.tuple #[]) ∧ Sep W w' (l.set k (Stk b most (got M most M.length) (lost || decide (most < (M.length : Int))))) := by
  obtain ⟨o, hp, ho, hup⟩ := h.open_ k hk
  exact (Put_calls w hp hl (fun i h1 h2 => by have := ho i h1; have := hn i h2; omega)).mono fun e w' ⟨he, hr, hkk⟩ => ⟨he, hup w' (Stk _ _ _ _) hr hkk⟩
theorem awake_sep (h : Sep W w l) : Calls Try.prog 27 #[] w fun e w' => e = .returned (.bool true) ∧ Sep W w' l :=
  (awake_calls w).mono fun e w' ⟨he, hk⟩ => ⟨he, h.stay hk⟩
end
/-- What a stack holds behind one more of a list. -/
theorem got_app {l : List Int} {most : Int} {k : Nat} (h : k < l.length) (hk : (k : Int) < most) : got l most (k + 1) = got l most k ++ [l[k]?.getD 0] := by
  have h1 := got_len l most (k := k) (by omega) (by omega)
  rw [if_pos hk] at h1
  rw [← got_ok h hk, putL_ok _ (by omega)]
theorem got_stop {l : List Int} {most : Int} {k : Nat} (h : k < l.length) (h0 : 0 ≤ most) (hk : ¬ (k : Int) < most) : got l most (k + 1) = got l most k := by
  rw [← got_no h h0 hk 0, putL_no]
  have h1 := got_len l most (k := k) (by omega) (by omega)
  rw [if_neg hk] at h1
  omega
end Go.Proofs.Ytdibadfecoipfaa.Gy
