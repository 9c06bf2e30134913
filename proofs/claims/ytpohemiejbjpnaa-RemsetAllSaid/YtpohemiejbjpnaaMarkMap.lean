/- A map that says just which marks are set. No condition. -/
import Derived.Test.YtpohemiejbjpnaaRemsetPure
import Derived.Test.YtpohemiejbjpnaaMaps
set_option linter.unusedVariables false
set_option linter.unusedSimpArgs false
namespace Go.Proofs.Ytpohemiejbjpnaa.Re
open Go.RowKit Go.Proofs.Ytpohemiejbjpnaa.W Go.Proofs.Ytpohemiejbjpnaa.Cd Go.Proofs.Ytpohemiejbjpnaa.Bf Go.Proofs.Ytpohemiejbjpnaa.Sm

def ik : KeyKind Try.prog 3 Int := intKeys Try.prog 3 .i64 Try.underlying3
theorem zero_bool (w : World) : (zeroValue 4).run Try.prog w = .ok (.bool false) w := by kernel_rfl
def isM (m : List Bool) (x : Int) : Bool := if 0 ≤ x then m[x.toNat]?.getD false else false
theorem isM_nat (m : List Bool) (j : Nat) : isM m (j : Int) = m[j]?.getD false := by unfold isM; rw [if_pos (by omega)]; rfl
def WR (n : Nat) (m : List Bool) (al : List (Int × Value)) : Prop :=
  m.length = n ∧ al.length = m.count true ∧ ∀ x : Int, mget al x = if isM m x = true then some (.bool true) else none
theorem rep_false (n i : Nat) : (List.replicate n false)[i]?.getD false = false := by
  rw [List.getElem?_replicate]; split <;> rfl
theorem WR.new (n : Nat) : WR n (List.replicate n false) [] := by
  refine ⟨by simp, by rw [rep_cnt]; rfl, fun x => ?_⟩
  have : isM (List.replicate n false) x = false := by
    unfold isM
    split
    · exact rep_false n _
    · rfl
  rw [this]; rfl
theorem WR.step {n : Nat} {m : List Bool} {al : List (Int × Value)} (h : WR n m al) {j : Nat} (hj : j < n) : WR n (m.set j true) (mput al (j : Int) (.bool true)) := by
  obtain ⟨h1, h2, h3⟩ := h
  refine ⟨by simpa using h1, ?_, fun x => ?_⟩
  · rw [len_mput, h3, isM_nat, cnt_set m j (by omega), h2]
    cases m[j]?.getD false <;> simp
  · by_cases hx : x = (j : Int)
    · subst hx
      rw [mget_put_same, isM_nat]
      simp [show j < m.length by omega]
    · rw [mget_put_other _ hx, h3]
      have : isM (m.set j true) x = isM m x := by
        unfold isM
        split
        · rw [List.getElem?_set_ne (by omega)]
        · rfl
      rw [this]
end Go.Proofs.Ytpohemiejbjpnaa.Re
