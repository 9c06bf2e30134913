/- The fixed fact of layer 18; no graph. No condition. -/
import Derived.Test.YtoldhaomacnigaaGrK
import Derived.Laws.StructEq
set_option linter.unusedVariables false
set_option linter.unusedSimpArgs false
namespace Go.Proofs.Ytoldhaomacnigaa.Gr
open Go.RowKit Go.Proofs.Ytoldhaomacnigaa.W Go.Proofs.Ytoldhaomacnigaa Go.Proofs.Ytoldhaomacnigaa.Sm
section
variable {W w : World} {oo : Nat → Prop} {g : Nat} {s : GS} {l : List Pr}
theorem Nodes_nil (w : World) : Calls Try.prog 15 #[.pointer none] w fun e w' => e = .returned (.tuple #[.slice none 0 0, .slice none 0 0]) ∧ w = w' := by
  go_enter Try.func15, Try.ntmps15
  go_wp2_with fail
  go_ret2
  exact ⟨rfl, rfl⟩
theorem Words_nil (w : World) : Calls Try.prog 13 #[.pointer none] w fun e w' => e = .returned (.int .i64 0) ∧ w = w' := by
  go_enter Try.func13, Try.ntmps13
  go_wp2_with fail
  go_ret
  exact ⟨rfl, rfl⟩
theorem Do_nil (x : A5) (w : World) : Calls Try.prog 11 #[.pointer none, stp x] w fun e w' => e = .returned (.agg (err 1).cells) ∧ Keep (fun _ => False) w w' := by
  obtain ⟨q, a, b, c, v⟩ := x
  go_enter Try.func11, Try.ntmps11
  go_wp2_with fail
  refine bodyPost_ret (v := .agg #[.int .i64 1, .bool false, .int .i64 0, .int .u64 0]) (by simp [results, Try.results11, go_sem]) rfl ⟨rfl, ?_⟩
  exact ((Keep.refl _ _).alloc _).alloc _
/-- A graph of one node, that refers to itself. -/
def aw : GS := ⟨[⟨[0, 1], [0]⟩], [0, 1, 0], 5⟩
theorem aw1 : gdo (gnew 3 5) ⟨1, 1, 2, 1, 0⟩ = (err 0, ⟨[⟨[0, 0], [0]⟩], [0, 1, 0], 5⟩) := by rfl
theorem aw2 : gdo ⟨[⟨[0, 0], [0]⟩], [0, 1, 0], 5⟩ ⟨3, 1, 1, 1, 0⟩ = (err 0, aw) := by rfl
theorem aw3 : shown aw = [([0, 1], [0])] := by decide
theorem aw4 : helds aw = [0, 1, 0] := by decide
theorem aw5 : words aw = 5 := by decide
set_option maxRecDepth 20000 in
set_option maxHeartbeats 4000000 in
theorem awake_calls (w : World) : Calls Try.prog 17 #[] w fun e w' => e = .returned (.bool true) ∧ Keep (fun _ => False) w w' := by
  go_enter Try.func17, Try.ntmps17
  go_wp2_with fail
  refine (New_sep 3 5 (Sep.nil w)).mono ?_
  rintro e w1 ⟨g, rfl, h1⟩
  go_wp2_with fail
  refine (Do_sep ⟨1, 1, 2, 1, 0⟩ (by unfold A5.wf; decide) h1 0 rfl).mono ?_
  rintro e w2 ⟨rfl, h2⟩
  rw [aw1] at h2 ⊢
  simp only [err, GA.cells]
  clear h1
  go_wp2_with fail
  have h3 := h2.new_blk 30 (err 0).cells
  have H3 := Lib.hid h3
  clear h2 h3
  refine (Do_sep ⟨3, 1, 1, 1, 0⟩ (by unfold A5.wf; decide) H3.out 0 rfl).mono ?_
  rintro e w4 ⟨rfl, h4⟩
  rw [aw2] at h4 ⊢
  simp only [err, GA.cells]
  have H4 := Lib.hid h4
  clear h4 H3
  go_wp2_with fail
  have H5 := Lib.hid (H4.out.new_blk 30 (err 0).cells)
  refine (Nodes_sep H5.out 0 rfl (by decide)).mono ?_
  rintro e w6 ⟨v, hv, rfl, h6⟩
  rw [aw3, aw4] at h6
  have n6 := nodes_of_part h6 3 rfl
  have i6 := ints_of_part h6 4 rfl
  have k0 := (h6.blk 1 rfl).cell 0
  have k1 := (h6.blk 2 rfl).cell 0
  simp [err, GA.cells] at k0 k1
  obtain ⟨b, o, c, r, rfl, p6, _, s6, _⟩ := NS_row n6 (j := 0) (by decide)
  obtain ⟨A1, c1, e1, _, d1⟩ := s6
  obtain ⟨bp, op, rfl, _, _, f1⟩ := d1 (by decide)
  have m1 := f1 1 (by decide)
  obtain ⟨A2, c2, rfl, _, d2⟩ := i6
  obtain ⟨bh, oh, rfl, _, _, f2⟩ := d2 (by decide)
  have m2 := f2 1 (by decide)
  rw [e1] at p6
  replace p6 : w6.cell? ⟨b, o, none⟩ = some (.slice (some ⟨bp, op, none⟩) 2 c1) := p6
  replace m1 : w6.cell? ⟨bp, op + 1, none⟩ = some (.int .i64 1) := m1
  replace m2 : w6.cell? ⟨bh, oh + 1, none⟩ = some (.int .i64 1) := m2
  have H6 := Lib.hid h6
  clear f1 f2 d1 d2 e1 h6 n6 H5 H4
  simp only [List.length_cons, List.length_nil]
  go_wp2_with fail
  refine (Words_sep H6.out 0 rfl (by decide)).mono ?_
  rintro e w7 ⟨rfl, h7⟩
  rw [aw5]
  go_wp2_with fail
  refine (Same_calls w7 (nodes_of_part h7 3 rfl) (ints_of_part h7 4 rfl) (nodes_of_part h7 3 rfl) (ints_of_part h7 4 rfl)).mono ?_
  rintro e w8 ⟨rfl, n8, rfl⟩
  have H7 := Lib.hid h7
  clear h7
  go_wp2_with fail
  go_ret
  exact ⟨rfl, H7.out.keep0.drewN _⟩
set_option maxRecDepth 20000 in
theorem None_calls (a b c d v : Int) (w : World) : Calls Try.prog 6 #[stp ⟨a, b, c, d, v⟩] w fun e w' => e = .returned (.bool true) ∧ Below w.heap.size w w' := by
  go_enter Try.func6, Try.ntmps6
  go_wp2_with fail
  refine (Nodes_nil _).mono ?_
  rintro e w1 ⟨rfl, rfl⟩
  go_wp2_with fail
  refine (awake_calls _).mono ?_
  rintro e w1 ⟨rfl, k1⟩
  have k2 := ((Keep.refl (fun _ => False) w).alloc (.cells (stc ⟨a, b, c, d, v⟩) 33)).trans k1 (fun i h => .inl h)
  have hB := k1.blk (Blk.new w 33 (stc ⟨a, b, c, d, v⟩)) (fun h => h)
  have c0 := hB.cell 0
  have c1 := hB.cell 1
  have c2 := hB.cell 2
  have c3 := hB.cell 3
  have c4 := hB.cell 4
  simp at c0 c1 c2 c3 c4
  have K2 := Lib.hid k2
  clear k1 k2 hB
  go_wp2_with fail
  refine (Do_nil ⟨a, b, c, d, v⟩ _).mono ?_
  rintro e w2 ⟨rfl, k3⟩
  have K3 := Lib.hid (K2.out.trans k3 (fun i h => .inl h))
  simp only [err, GA.cells]
  clear k3 K2 c0 c1 c2 c3 c4
  go_wp2_with fail
  refine (Words_nil _).mono ?_
  rintro e w3 ⟨rfl, rfl⟩
  go_wp2_with fail
  go_ret
  exact ⟨rfl, K3.out.below (fun i h => h.elim)⟩
end
end Go.Proofs.Ytoldhaomacnigaa.Gr
