/- What 'awake' of the laws of mature computes, in numbers. No condition. -/
import Derived.Test.YtjgjablmkljfoaaMatZ
set_option linter.unusedVariables false
set_option linter.unusedSimpArgs false
namespace Go.Proofs.Ytjgjablmkljfoaa.Ma
open Go.RowKit Go.Proofs.Ytjgjablmkljfoaa.W Go.Proofs.Ytjgjablmkljfoaa.Cl

/-- The pages of awake, as it goes. -/
def w0 : List Pg := List.replicate 4 fre
def w1 : List Pg := [⟨1, 6, [true, false], false⟩, fre, fre, fre]
def w2 : List Pg := [⟨1, 6, [true, false], false⟩, ⟨2, 20, [], false⟩, more, fre]
def w3 : List Pg := [⟨1, 6, [true, true], false⟩, ⟨2, 20, [], false⟩, more, fre]
def w4 : List Pg := [⟨1, 6, [false, true], false⟩, ⟨2, 20, [], false⟩, more, fre]
theorem aw1 : takeR 100 16 5 w0 = (some 100, w1) := by rfl
theorem aw2 : takeR 100 16 20 w1 = (some 116, w2) := by rfl
theorem aw3 : takeR 100 16 6 w2 = (some 106, w3) := by rfl
theorem aw4 : atO 100 16 w3 116 = some (1, 0) ∧ szO 16 w3 (some (1, 0)) = 32 := ⟨by rfl, by rfl⟩
theorem aw5 : freeN w3 = 1 ∧ usL 100 16 w3 w3 0 = 44 := ⟨by rfl, by rfl⟩
theorem aw6 : stL 100 16 0 200 w3 0 = [100, 106, 116] := by rfl
theorem aw7 : atO 100 16 w3 100 = some (0, 0) ∧ gvP ⟨1, 6, [true, true], false⟩ 0 = ⟨1, 6, [false, true], false⟩ := ⟨by rfl, by rfl⟩
theorem aw8 : atO 100 16 w4 100 = none := by rfl
end Go.Proofs.Ytjgjablmkljfoaa.Ma
