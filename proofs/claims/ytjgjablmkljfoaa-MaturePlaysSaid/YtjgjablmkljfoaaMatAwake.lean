/- awake of the laws of mature. No condition. -/
import Derived.Test.YtjgjablmkljfoaaMatAx
set_option linter.unusedVariables false
set_option linter.unusedSimpArgs false
namespace Go.Proofs.Ytjgjablmkljfoaa.Ma
open Go.RowKit Go.Proofs.Ytjgjablmkljfoaa.W Go.Proofs.Ytjgjablmkljfoaa.Cl
section
variable {W w : World} {oo : Nat → Prop} {b L : Nat} {f n : Int} {lg : List (Pg × Nat)}
theorem Take_aw {x r : Int} {l l' : List Pg} (hx : x ≤ 9223372036854775807) (h : SepO W oo w (mparts b L f n lg)) (m : MW f n lg) (e : lg.map (·.1) = l) (ht : takeR f n x l = (some r, l')) :
    Calls Try.prog 9 #[pt b, .int .i64 x] w fun e w' => e = .returned (.tuple #[.int .i64 r, .bool true]) ∧ ∃ lg', SepO W oo w' (mparts b L f n lg') ∧ lg'.map (·.1) = l' := by
  have := Take_in x hx h m
  rw [e, ht] at this
  exact this
set_option maxRecDepth 20000 in
set_option maxHeartbeats 2000000 in
theorem awake_calls (w : World) : Calls Try.prog 12 #[] w fun e w' => e = .returned (.bool true) ∧ SepO w (fun _ => False) w' [] := by
  go_enter Try.func12, Try.ntmps12
  go_wp2_with fail
  refine (New_in 100 4 16 (Sep.nil w)).mono ?_
  rintro e w1 ⟨b, L, rfl, h1⟩
  replace h1 : SepO w (fun _ => False) w1 (mparts b L 100 16 (List.replicate 4 (fre, 0))) := h1
  have H1 := Lib.hid h1
  clear h1
  go_wp2_with fail
  refine (Take_aw (by omega) H1.out (mw0 rfl) rfl aw1).mono ?_
  rintro e x2 ⟨rfl, lg1, h2, e2⟩
  have H2 := Lib.hid h2
  have E2 := Lib.hid e2
  clear H1 h2 e2
  go_wp2_with fail
  refine (Take_aw (by omega) H2.out (mw1 E2.out) E2.out aw2).mono ?_
  rintro e x3 ⟨rfl, lg2, h2, e2⟩
  have H3 := Lib.hid h2
  have E3 := Lib.hid e2
  clear H2 E2 h2 e2
  go_wp2_with fail
  refine (Take_aw (by omega) H3.out (mw2 E3.out) E3.out aw3).mono ?_
  rintro e x4 ⟨rfl, lg3, h2, e2⟩
  have m3 := mw3 e2
  have hsz := fun (W' : World) (oo' : Nat → Prop) (x5 : World) (h : SepO W' oo' x5 (mparts b L 100 16 lg3)) => Size_in 116 h m3 (by omega)
  rw [e2, aw4.1] at hsz
  rw [aw4.2] at hsz
  have hfr := fun (W' : World) (oo' : Nat → Prop) (x5 : World) (h : SepO W' oo' x5 (mparts b L 100 16 lg3)) => Free_in h m3
  rw [e2, aw5.1] at hfr
  have hus := fun (W' : World) (oo' : Nat → Prop) (x5 : World) (h : SepO W' oo' x5 (mparts b L 100 16 lg3)) => Used_in h m3
  rw [e2, aw5.2] at hus
  have hst := fun (W' : World) (oo' : Nat → Prop) (x5 : World) (h : SepO W' oo' x5 (mparts b L 100 16 lg3)) => Starts_in 0 200 h m3
  rw [e2, aw6] at hst
  have h7 : (lg3.map (·.1))[0]? = some ⟨1, 6, [true, true], false⟩ := by rw [e2]; rfl
  rw [List.getElem?_map] at h7
  obtain ⟨p, hp, hp1⟩ := Option.map_eq_some_iff.1 h7
  have hgv := fun (W' : World) (oo' : Nat → Prop) (x5 : World) (h : SepO W' oo' x5 (mparts b L 100 16 lg3)) => Give_cell 100 h m3 (by omega) (by rw [e2]; exact aw7.1) hp (by rw [hp1])
  rw [hp1, aw7.2, e2] at hgv
  have H4 := Lib.hid h2
  have HS := Lib.hid hsz
  have HF := Lib.hid hfr
  have HU := Lib.hid hus
  have HT := Lib.hid hst
  have HG := Lib.hid hgv
  clear H3 E3 h2 e2 hsz hfr hus hst hgv hp hp1 h7 m3
  go_wp2_with fail
  refine (HS.out _ _ _ H4.out).mono ?_
  rintro e x5 ⟨rfl, h5⟩
  go_wp2_with fail
  refine (HF.out _ _ _ h5).mono ?_
  rintro e x6 ⟨rfl, rfl⟩
  go_wp2_with fail
  refine (HU.out _ _ _ h5).mono ?_
  rintro e x7 ⟨rfl, h7⟩
  go_wp2_with fail
  refine (HT.out _ _ _ h7).mono ?_
  rintro e x8 ⟨A, c, rfl, h8⟩
  go_wp2_with fail
  refine (HG.out _ _ _ (h8.unpack).first).mono ?_
  rintro e x9 ⟨rfl, lg4, h9, e9⟩
  have hgn := Give_none 100 h9 (mw4 e9) (by omega) (by rw [e9]; exact aw8)
  have HGN := Lib.hid hgn
  clear h9 e9 hgn
  go_wp2_with fail
  refine HGN.out.mono ?_
  rintro e x10 ⟨rfl, h10⟩
  go_wp2_with fail
  go_ret
  exact ⟨rfl, SepO.first (l := []) h10⟩
end
end Go.Proofs.Ytjgjablmkljfoaa.Ma
