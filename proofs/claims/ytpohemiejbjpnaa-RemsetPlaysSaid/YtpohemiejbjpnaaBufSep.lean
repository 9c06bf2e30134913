/- Rows with room for so many as parts of memory. No condition. -/
import Derived.Test.YtpohemiejbjpnaaBuf
import Derived.Test.YtpohemiejbjpnaaSep
set_option linter.unusedVariables false
set_option linter.unusedSimpArgs false
namespace Go.Proofs.Ytpohemiejbjpnaa.Bf
open Go.RowKit Go.Proofs.Ytpohemiejbjpnaa.W

def Bfr (b : Nat) (most : Int) (L : List Int) : Pr := ⟨fun w o => BRep w o b most L, fun h k hn => h.keep k hn, fun h hs => h.mono hs, fun h => h.bound⟩
section
variable {W w : World} {oo : Nat → Prop} {l : List Pr} {b : Nat} {most : Int} {L : List Int}
theorem Bfr_b (h : SepO W oo w l) (k : Nat) (hk : l[k]? = some (Bfr b most L)) : (L.length : Int) ≤ most ∧ 0 ≤ most ∧ most ≤ 1048576 := by
  obtain ⟨o, ⟨A, c, _, h0, h1, h2, _⟩, _⟩ := h.get k hk
  exact ⟨h2, h0, h1⟩
theorem New_sep (n : Int) (h : SepO W oo w l) : Calls Try.prog 16 #[.int .i64 n] w fun e w' => ∃ b, e = .returned (.pointer (some ⟨b, 0, none⟩)) ∧ SepO W oo w' (l ++ [Bfr b (clampN n) []]) :=
  (New_calls n w).mono fun e w' ⟨b, he, hr, hk⟩ => ⟨b, he, h.add (P := Bfr b (clampN n) []) hk hr⟩
theorem Len_sep (h : SepO W oo w l) (k : Nat) (hk : l[k]? = some (Bfr b most L)) : Calls Try.prog 18 #[.pointer (some ⟨b, 0, none⟩)] w fun e w' => e = .returned (.int .i64 L.length) ∧ w = w' := by
  obtain ⟨o, hp, _, hup⟩ := h.open_ k hk
  exact Len_calls w hp
theorem Put_sep (x : Int) (h : SepO W oo w l) (k : Nat) (hk : l[k]? = some (Bfr b most L)) : Calls Try.prog 20 #[.pointer (some ⟨b, 0, none⟩), .int .i64 x] w fun e w' =>
    e = .returned (.bool (decide ((L.length : Int) < most))) ∧ SepO W oo w' (l.set k (Bfr b most (putL L most x))) := by
  obtain ⟨o, hp, _, hup⟩ := h.open_ k hk
  exact (Put_calls x w hp).mono fun e w' ⟨he, hr, hkk⟩ => ⟨he, hup w' (Bfr _ _ _) hr hkk⟩
theorem Take_sep (h : SepO W oo w l) (k : Nat) (hk : l[k]? = some (Bfr b most L)) : Calls Try.prog 22 #[.pointer (some ⟨b, 0, none⟩)] w fun e w' =>
    e = .returned (.tuple #[.int .i64 (fst0 L), .bool (some0 L)]) ∧ SepO W oo w' (l.set k (Bfr b most L.tail)) := by
  obtain ⟨o, hp, _, hup⟩ := h.open0 k hk
  exact (Take_calls w hp).mono fun e w' ⟨he, hr, hkk⟩ => ⟨he, hup w' (Bfr _ _ _) hr hkk⟩
end
theorem putL_ok {L : List Int} {most : Int} (x : Int) (h : (L.length : Int) < most) : putL L most x = L ++ [x] := by unfold putL; rw [if_pos h]
theorem putL_no {L : List Int} {most : Int} (x : Int) (h : ¬ (L.length : Int) < most) : putL L most x = L := by unfold putL; rw [if_neg h]
end Go.Proofs.Ytpohemiejbjpnaa.Bf
