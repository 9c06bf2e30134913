/- Sets as parts of memory; the fixed fact of layer 10. No condition. -/
import Derived.Test.YtpohemiejbjpnaaRemset
import Derived.Test.YtpohemiejbjpnaaCut
set_option linter.unusedVariables false
set_option linter.unusedSimpArgs false
namespace Go.Proofs.Ytpohemiejbjpnaa.Re
open Go.RowKit Go.Proofs.Ytpohemiejbjpnaa.W Go.Proofs.Ytpohemiejbjpnaa.Cd Go.Proofs.Ytpohemiejbjpnaa.Bf Go.Proofs.Ytpohemiejbjpnaa.Sm
section
variable {W w : World} {oo : Nat → Prop} {l : List Pr} {b : Nat} {s : RS}
theorem Rms_ok (h : SepO W oo w l) (k : Nat) (hk : l[k]? = some (Rms b s)) : s.ok := by
  obtain ⟨o, ⟨r, h, _⟩, _⟩ := h.get k hk
  exact h
theorem New_sep (f n c mo : Int) (h : SepO W oo w l) : Calls Try.prog 8 #[.int .i64 f, .int .i64 n, .int .i64 c, .int .i64 mo] w fun e w' =>
    ∃ b, e = .returned (pt b) ∧ SepO W oo w' (l ++ [Rms b ⟨Cd.clampN f, Cd.clampN n, c, mo, [], (Cd.none_ (Cd.clampN f) (Cd.clampN n) (Cd.clamp1 c)).m, [], (Cd.none_ (Cd.clampN f) (Cd.clampN n) (Cd.clamp1 c)).m⟩]) :=
  (New_calls f n c mo w).mono fun e w' ⟨b, he, hr, hk⟩ => ⟨b, he, h.add (P := Rms b _) hk hr⟩
theorem Left_sep (h : SepO W oo w l) (k : Nat) (hk : l[k]? = some (Rms b s)) : Calls Try.prog 9 #[pt b] w fun e w' => e = .returned (.int .i64 s.left) ∧ SepO W oo w' l := by
  obtain ⟨o, hp, _, hup⟩ := h.open0 k hk
  exact (Left_calls hp).mono fun e w' ⟨he, n, hw⟩ => ⟨he, hw ▸ h.drewN n⟩
theorem Len_sep (h : SepO W oo w l) (k : Nat) (hk : l[k]? = some (Rms b s)) : Calls Try.prog 10 #[pt b] w fun e w' => e = .returned (.int .i64 s.here) ∧ SepO W oo w' l := by
  obtain ⟨o, hp, _, hup⟩ := h.open0 k hk
  exact (Len_calls hp).mono fun e w' ⟨he, n, hw⟩ => ⟨he, hw ▸ h.drewN n⟩
theorem Add_sep (a : Int) (h : SepO W oo w l) (k : Nat) (hk : l[k]? = some (Rms b s)) (a0 : -9223372036854775808 ≤ a) (a9 : a ≤ 9223372036854775807) : Calls Try.prog 11 #[pt b, .int .i64 a] w fun e w' =>
    e = .returned (.bool (s.inn a)) ∧ SepO W oo w' (l.set k (Rms b (s.add a))) := by
  obtain ⟨o, hp, _, hup⟩ := h.open_ k hk
  exact (Add_calls a hp a0 a9).mono fun e w' ⟨he, hr, hkk⟩ => ⟨he, hup w' (Rms _ _) hr hkk⟩
theorem Flip_sep (h : SepO W oo w l) (k : Nat) (hk : l[k]? = some (Rms b s)) : Calls Try.prog 12 #[pt b] w fun e w' => e = .returned (.bool (decide (s.left ≤ 0))) ∧ SepO W oo w' (l.set k (Rms b s.flip)) := by
  obtain ⟨o, hp, _, hup⟩ := h.open_ k hk
  exact (Flip_calls hp).mono fun e w' ⟨he, hr, hkk⟩ => ⟨he, hup w' (Rms _ _) hr hkk⟩
theorem Next_sep (h : SepO W oo w l) (k : Nat) (hk : l[k]? = some (Rms b s)) : Calls Try.prog 13 #[pt b] w fun e w' => e = .returned (four s.said) ∧ SepO W oo w' (l.set k (Rms b s.next)) := by
  obtain ⟨o, hp, _, hup⟩ := h.open_ k hk
  exact (Next_calls hp).mono fun e w' ⟨he, hr, hkk⟩ => ⟨he, hup w' (Rms _ _) hr hkk⟩
end
theorem Next_nil (w : World) : Calls Try.prog 13 #[.pointer none] w fun e w' => e = .returned (four ((0, 0), (false, false))) ∧ w = w' := by
  go_enter Try.func13, Try.ntmps13
  go_wp2_with fail
  exact bodyPost_ret (v := four ((0, 0), (false, false))) (by simp [results, Try.results13, go_sem]) rfl ⟨rfl, rfl⟩

set_option maxRecDepth 20000 in
set_option maxHeartbeats 2000000 in
theorem awake_calls (w : World) : Calls Try.prog 14 #[] w fun e w' => e = .returned (.bool true) ∧ Keep (fun _ => False) w w' := by
  go_enter Try.func14, Try.ntmps14
  go_wp2_with fail
  refine (New_sep 100 40 16 1 (Sep.nil w)).mono ?_
  rintro e w0 ⟨b, rfl, h⟩
  replace h : Sep w w0 [Rms b ⟨100, 40, 16, 1, [], [false, false, false], [], [false, false, false]⟩] := h
  go_wp2_with fail
  refine (Add_sep 105 h 0 rfl (by omega) (by omega)).mono ?_
  rintro e w1 ⟨rfl, h1⟩
  rw [show RS.inn ⟨100, 40, 16, 1, [], [false, false, false], [], [false, false, false]⟩ 105 = true from by decide]
  replace h1 : Sep w w1 [Rms b ⟨100, 40, 16, 1, [105], [false, false, false], [], [false, false, false]⟩] := h1
  go_wp2_with fail
  refine (Add_sep 106 h1 0 rfl (by omega) (by omega)).mono ?_
  rintro e w2 ⟨rfl, h2⟩
  rw [show RS.inn ⟨100, 40, 16, 1, [105], [false, false, false], [], [false, false, false]⟩ 106 = true from by decide]
  replace h2 : Sep w w2 [Rms b ⟨100, 40, 16, 1, [105], [true, false, false], [], [false, false, false]⟩] := h2
  go_wp2_with fail
  refine (Add_sep 139 h2 0 rfl (by omega) (by omega)).mono ?_
  rintro e w3 ⟨rfl, h3⟩
  rw [show RS.inn ⟨100, 40, 16, 1, [105], [true, false, false], [], [false, false, false]⟩ 139 = true from by decide]
  replace h3 : Sep w w3 [Rms b ⟨100, 40, 16, 1, [105], [true, false, true], [], [false, false, false]⟩] := h3
  go_wp2_with fail
  refine (Add_sep 140 h3 0 rfl (by omega) (by omega)).mono ?_
  rintro e w4 ⟨rfl, h4⟩
  rw [show RS.inn ⟨100, 40, 16, 1, [105], [true, false, true], [], [false, false, false]⟩ 140 = false from by decide]
  replace h4 : Sep w w4 [Rms b ⟨100, 40, 16, 1, [105], [true, false, true], [], [false, false, false]⟩] := h4
  go_wp2_with fail
  refine (Flip_sep h4 0 rfl).mono ?_
  rintro e w5 ⟨rfl, h5⟩
  rw [show decide (RS.left ⟨100, 40, 16, 1, [105], [true, false, true], [], [false, false, false]⟩ ≤ 0) = true from by decide]
  replace h5 : Sep w w5 [Rms b ⟨100, 40, 16, 1, [], [false, false, false], [105], [true, false, true]⟩] := h5
  clear h h1 h2 h3 h4
  go_wp2_with fail
  refine (Flip_sep h5 0 rfl).mono ?_
  rintro e w6 ⟨rfl, h6⟩
  rw [show decide (RS.left ⟨100, 40, 16, 1, [], [false, false, false], [105], [true, false, true]⟩ ≤ 0) = false from by decide]
  replace h6 : Sep w w6 [Rms b ⟨100, 40, 16, 1, [], [false, false, false], [105], [true, false, true]⟩] := h6
  go_wp2_with fail
  refine (Next_sep h6 0 rfl).mono ?_
  rintro e w7 ⟨rfl, h7⟩
  rw [show RS.said ⟨100, 40, 16, 1, [], [false, false, false], [105], [true, false, true]⟩ = ((105, 106), (false, true)) from by decide]
  replace h7 : Sep w w7 [Rms b ⟨100, 40, 16, 1, [], [false, false, false], [], [true, false, true]⟩] := h7
  go_wp2_with fail
  refine (Next_sep h7 0 rfl).mono ?_
  rintro e w8 ⟨rfl, h8⟩
  rw [show RS.said ⟨100, 40, 16, 1, [], [false, false, false], [], [true, false, true]⟩ = ((100, 116), (true, true)) from by decide]
  replace h8 : Sep w w8 [Rms b ⟨100, 40, 16, 1, [], [false, false, false], [], [false, false, true]⟩] := h8
  clear h5 h6 h7
  go_wp2_with fail
  refine (Left_sep h8 0 rfl).mono ?_
  rintro e w9 ⟨rfl, h9⟩
  rw [show RS.left ⟨100, 40, 16, 1, [], [false, false, false], [], [false, false, true]⟩ = 1 from by decide]
  go_wp2_with fail
  refine (Len_sep h9 0 rfl).mono ?_
  rintro e w10 ⟨rfl, h10⟩
  rw [show RS.here ⟨100, 40, 16, 1, [], [false, false, false], [], [false, false, true]⟩ = 0 from by decide]
  go_wp2_with fail
  refine (Cut_calls 9 0 3 w10).mono ?_
  rintro e w11 ⟨rfl, rfl⟩
  rw [show cut 9 0 3 = 3 from by decide]
  go_wp2_with fail
  go_ret
  exact ⟨rfl, h10.keep0⟩
theorem awake_sep {W w : World} {oo : Nat → Prop} {l : List Pr} (h : SepO W oo w l) : Calls Try.prog 14 #[] w fun e w' => e = .returned (.bool true) ∧ SepO W oo w' l :=
  (awake_calls w).mono fun e w' ⟨he, hk⟩ => ⟨he, h.stay hk⟩

set_option maxRecDepth 20000 in
set_option maxHeartbeats 2000000 in
theorem None_calls (x : Int) (w : World) : Calls Try.prog 5 #[.int .i64 x] w fun e w' => e = .returned (.bool true) ∧ Below w.heap.size w w' := by
  go_enter Try.func5, Try.ntmps5
  go_wp2_with (first | (go_at_call 14; refine (awake_calls _).mono ?_; rintro e w1 ⟨rfl, k1⟩) | (go_at_call 13; refine (Next_nil _).mono ?_; rintro e w2 ⟨rfl, rfl⟩) | go_in | (go_quiet (fail)))
  all_goals
    go_ret
    first | exact ⟨rfl, (k1.drewN _).below (fun i h => h.elim)⟩ | exact ⟨rfl, k1.below (fun i h => h.elim)⟩
end Go.Proofs.Ytpohemiejbjpnaa.Re
