/- Laws of layer 7 as contracts. Condition: numbers are of their kinds. -/
import Derived.Test.YtfaffpmmjlddeaaObjKit
set_option linter.unusedVariables false
set_option linter.unusedSimpArgs false
namespace Go.Proofs.Ytfaffpmmjlddeaa.Ob
open Go.RowKit Go.Proofs.Ytfaffpmmjlddeaa.W Go.Proofs.Ytfaffpmmjlddeaa.Ar Go.Proofs.Ytfaffpmmjlddeaa.Hea

def OAt (W : World) (lo hi : Nat) (w : World) (b : Nat) (ws : List Int) : Prop := OA w (fun i => lo ≤ i ∧ i < hi) b ws ∧ Keep (fun _ => False) W w ∧ W.heap.size ≤ lo ∧ hi ≤ w.heap.size
section
variable {W w : World} {lo hi b : Nat} {ws : List Int}
theorem OAt.go {w' : World} {ws' : List Int} (h : OAt W lo hi w b ws) (r : OA w' (fun i => lo ≤ i ∧ i < hi) b ws') (k : Keep (fun i => lo ≤ i ∧ i < hi) w w') : OAt W lo hi w' b ws' :=
  ⟨r, h.2.1.trans k (fun i h' => .inr (by have := h.2.2.1; omega)), h.2.2.1, Nat.le_trans h.2.2.2 k.size⟩
theorem OAt.stay {w' : World} (h : OAt W lo hi w b ws) (k : Keep (fun _ => False) w w') : OAt W lo hi w' b ws := ⟨h.1.stay k, h.2.1.trans k (fun i h => .inl h), h.2.2.1, Nat.le_trans h.2.2.2 k.size⟩
theorem OAt.alloc (h : OAt W lo hi w b ws) (o : Obj) : OAt W lo hi (w.alloc o) b ws := h.stay ((Keep.refl _ w).alloc o)
theorem OAt.drewN (h : OAt W lo hi w b ws) (n : Nat) : OAt W lo hi (w.drewN n) b ws := h.stay ((Keep.refl _ w).drewN n)
theorem OAt.below (h : OAt W lo hi w b ws) : Below W.heap.size W w := h.2.1.below (fun i h => h.elim)
theorem New_at (n : Int) {W w : World} (hk : Keep (fun _ => False) W w) (h0 : 0 ≤ n) (h1 : n ≤ 1048576) : Calls Try.prog 13 #[.int .i64 n] w fun e w' => ∃ b hi, e = .returned (.pointer (some ⟨b, 0, none⟩)) ∧ OAt W w.heap.size hi w' b (List.replicate n.toNat 0) ∧ hi = w'.heap.size ∧ Keep (fun _ => False) w w' :=
  (New_o n w h0 h1).mono fun e w' ⟨b, he, hr, hk'⟩ => ⟨b, _, he, ⟨hr.bound, hk.trans hk' (fun i h => .inl h), hk.size, Nat.le_refl _⟩, rfl, hk'⟩
theorem Make_at (a : Int) (hd : Hd) (h : OAt W lo hi w b ws) (e : Int) (ws' : List Int) (he : mkErr ws a hd = e) (hw : mkW ws a hd = ws') : Calls Try.prog 23 #[.pointer (some ⟨b, 0, none⟩), .int .i64 a, .agg hd.cells] w fun e' w' => e' = .returned (.int .i64 e) ∧ OAt W lo hi w' b ws' ∧ Keep (fun i => lo ≤ i ∧ i < hi) w w' :=
  (Make_calls a hd h.1).mono fun e' w' ⟨h1, h2, h3⟩ => ⟨he ▸ h1, h.go (hw ▸ h2) h3, h3⟩
theorem Move_at (a c : Int) (hd : Hd) (h : OAt W lo hi w b ws) (e : Int) (ws' : List Int) (he : mvErr ws a c hd = e) (hw : mvW ws a c hd = ws') : Calls Try.prog 35 #[.pointer (some ⟨b, 0, none⟩), .int .i64 a, .int .i64 c, .agg hd.cells] w fun e' w' => e' = .returned (.int .i64 e) ∧ OAt W lo hi w' b ws' ∧ Keep (fun i => lo ≤ i ∧ i < hi) w w' :=
  (Move_calls a c hd h.1).mono fun e' w' ⟨h1, h2, h3⟩ => ⟨he ▸ h1, h.go (hw ▸ h2) h3, h3⟩
theorem SetField_at (a k x : Int) (h : OAt W lo hi w b ws) (hx : w64 x) (e : Int) (ws' : List Int) (he : erW ws (placeOf a k) = e) (hw : stW ws (placeOf a k) x = ws') : Calls Try.prog 33 #[.pointer (some ⟨b, 0, none⟩), .int .i64 a, .int .i64 k, .int .u64 x] w fun e' w' => e' = .returned (.int .i64 e) ∧ OAt W lo hi w' b ws' ∧ Keep (fun i => lo ≤ i ∧ i < hi) w w' :=
  (SetField_calls a k x h.1 hx).mono fun e' w' ⟨h1, h2, h3⟩ => ⟨he ▸ h1, h.go (hw ▸ h2) h3, h3⟩
theorem SetWay_at (a c : Int) (h : OAt W lo hi w b ws) (e : Int) (ws' : List Int) (he : (if okAt a then erW ws (a + 1) else 2) = e) (hw : (if okAt a then stW ws (a + 1) (IntKind.u64.wrap c) else ws) = ws') : Calls Try.prog 34 #[.pointer (some ⟨b, 0, none⟩), .int .i64 a, .int .i64 c] w fun e' w' => e' = .returned (.int .i64 e) ∧ OAt W lo hi w' b ws' ∧ Keep (fun i => lo ≤ i ∧ i < hi) w w' :=
  (SetWay_calls a c h.1).mono fun e' w' ⟨h1, h2, h3⟩ => ⟨he ▸ h1, h.go (hw ▸ h2) h3, h3⟩
theorem SetHead_at (a : Int) (hd : Hd) (h : OAt W lo hi w b ws) (e : Int) (ws' : List Int) (he : (if hd.good then erW ws a else 1) = e) (hw : (if hd.good then stW ws a hd.word else ws) = ws') : Calls Try.prog 36 #[.pointer (some ⟨b, 0, none⟩), .int .i64 a, .agg hd.cells] w fun e' w' => e' = .returned (.int .i64 e) ∧ OAt W lo hi w' b ws' ∧ Keep (fun i => lo ≤ i ∧ i < hi) w w' :=
  (SetHead_calls a hd h.1).mono fun e' w' ⟨h1, h2, h3⟩ => ⟨he ▸ h1, h.go (hw ▸ h2) h3, h3⟩
theorem Store_at (a x : Int) (h : OAt W lo hi w b ws) (hx : w64 x) (e : Int) (ws' : List Int) (he : erW ws a = e) (hw : stW ws a x = ws') : Calls Try.prog 18 #[.pointer (some ⟨b, 0, none⟩), .int .i64 a, .int .u64 x] w fun e' w' => e' = .returned (.int .i64 e) ∧ OAt W lo hi w' b ws' ∧ Keep (fun i => lo ≤ i ∧ i < hi) w w' :=
  (Store_o a x h.1 hx).mono fun e' w' ⟨h1, h2, h3⟩ => ⟨he ▸ h1, h.go (hw ▸ h2) h3, h3⟩
theorem Load_at (a : Int) (h : OAt W lo hi w b ws) (x e : Int) (hx : ldW ws a = x) (he : erW ws a = e) : Calls Try.prog 14 #[.pointer (some ⟨b, 0, none⟩), .int .i64 a] w fun e' w' => e' = .returned (.tuple #[.int .u64 x, .int .i64 e]) ∧ OAt W lo hi w' b ws ∧ Keep (fun i => lo ≤ i ∧ i < hi) w w' :=
  (Load_o a h.1).mono fun e' w' ⟨h1, h2, h3⟩ => ⟨hx ▸ he ▸ h1, h.go (h2) h3, h3⟩
theorem Field_at (a k : Int) (h : OAt W lo hi w b ws) (x e : Int) (hx : ldW ws (placeOf a k) = x) (he : erW ws (placeOf a k) = e) : Calls Try.prog 32 #[.pointer (some ⟨b, 0, none⟩), .int .i64 a, .int .i64 k] w fun e' w' => e' = .returned (.tuple #[.int .u64 x, .int .i64 e]) ∧ OAt W lo hi w' b ws ∧ Keep (fun i => lo ≤ i ∧ i < hi) w w' :=
  (Field_calls a k h.1).mono fun e' w' ⟨h1, h2, h3⟩ => ⟨hx ▸ he ▸ h1, h.go (h2) h3, h3⟩
theorem Way_at (a : Int) (h : OAt W lo hi w b ws) (x e : Int) (hx : (if okAt a then wrap64 (ldW ws (a + 1)) else 0) = x) (he : (if okAt a then erW ws (a + 1) else 2) = e) : Calls Try.prog 30 #[.pointer (some ⟨b, 0, none⟩), .int .i64 a] w fun e' w' => e' = .returned (.tuple #[.int .i64 x, .int .i64 e]) ∧ OAt W lo hi w' b ws ∧ Keep (fun i => lo ≤ i ∧ i < hi) w w' :=
  (Way_calls a h.1).mono fun e' w' ⟨h1, h2, h3⟩ => ⟨hx ▸ he ▸ h1, h.go (h2) h3, h3⟩
theorem Head_at (a : Int) (h : OAt W lo hi w b ws) (hd : Hd) (e : Int) (hx : hdAt ws a = hd) (he : hdErr ws a = e) : Calls Try.prog 29 #[.pointer (some ⟨b, 0, none⟩), .int .i64 a] w fun e' w' => e' = .returned (.tuple #[.agg hd.cells, .int .i64 e]) ∧ OAt W lo hi w' b ws ∧ Keep (fun i => lo ≤ i ∧ i < hi) w w' :=
  (Head_calls a h.1).mono fun e' w' ⟨h1, h2, h3⟩ => ⟨hx ▸ he ▸ h1, h.go (h2) h3, h3⟩
end
theorem wrap_id {n : Int} (h0 : -9223372036854775808 ≤ n) (h1 : n ≤ 9223372036854775807) : wrap64 n = n := by unfold wrap64; omega
theorem way_ok {ws : List Int} {a x : Int} (h0 : 0 ≤ a) (h1 : a ≤ 1048576) (hx : ldW ws (a + 1) = x) (x0 : 0 ≤ x) (x1 : x ≤ 1048576) : (if okAt a then wrap64 (ldW ws (a + 1)) else 0) = x := by
  rw [if_pos (by simp [okAt]; omega), hx, wrap_id (by omega) (by omega)]
theorem head_ok {ws : List Int} {a : Int} {h : Hd} (hg : h.good) (hx : ldW ws a = h.word) : hdAt ws a = h := by unfold hdAt; rw [hx, hdOf_word hg]
theorem herr_ok {ws : List Int} {a : Int} {h : Hd} (hg : h.good) (hi : inn ws a = true) (hx : ldW ws a = h.word) : hdErr ws a = 0 := by unfold hdErr; rw [if_pos hi, hx, if_pos (isHead_word hg)]
theorem Words_r (hd : Hd) (w : World) (n : Int) (hn : wordsOf hd = n) : Calls Try.prog 31 #[.agg hd.cells] w fun e' w' => e' = .returned (.int .i64 n) ∧ Keep (fun _ => False) w w' := (Words_calls hd w).mono fun e' w' ⟨h1, h2⟩ => ⟨hn ▸ h1, h2⟩
theorem RGood_r (hd : Hd) (w : World) (r : Bool) (hr : decide hd.good = r) : Calls Try.prog 24 #[.agg hd.cells] w fun e' w' => e' = .returned (.bool r) ∧ Keep (fun _ => False) w w' := (RGood_calls hd w).mono fun e' w' ⟨h1, h2⟩ => ⟨hr ▸ h1, h2⟩
theorem RWord_r (hd : Hd) (w : World) (hg : hd.good) (x : Int) (hx : hd.word = x) : Calls Try.prog 28 #[.agg hd.cells] w fun e' w' => e' = .returned (.int .u64 x) ∧ Keep (fun _ => False) w w' := (RWord_calls hd w hg).mono fun e' w' ⟨h1, h2⟩ => ⟨hx ▸ h1, h2⟩

set_option maxRecDepth 20000 in
set_option maxHeartbeats 4000000 in
theorem awake_calls (w : World) : Calls Try.prog 25 #[] w fun e w' => e = .returned (.bool true) ∧ Keep (fun _ => False) w w' := by
  go_enter Try.func25, Try.ntmps25
  have kw := Keep.refl (fun _ => False) w
  go_wp2_with fail
  refine (New_at 20 kw (by omega) (by omega)).mono ?_
  rintro e w1 ⟨b, hi, rfl, h, hhi, k0⟩
  replace h : OAt w w.heap.size hi w1 b [0, 0, 0, 0, 0, 0, 0, 0, 0, 0, 0, 0, 0, 0, 0, 0, 0, 0, 0, 0] := h
  clear kw k0
  replace h := h.alloc (.cells #[.int .i64 3, .int .i64 1, .int .i64 0, .int .i64 0, .bool false, .bool false, .bool false] 44)
  have hB := Blk.new w1 44 #[.int .i64 3, .int .i64 1, .int .i64 0, .int .i64 0, .bool false, .bool false, .bool false]
  have hge : hi ≤ w1.heap.size := Nat.le_of_eq hhi
  clear hhi
  have hl : w.heap.size ≤ w.heap.size := Nat.le_refl _
  go_wp2_with fail
  refine (Make_at 2 ⟨3, 1, 0, 0, false, false, false⟩ h 0 [0, 0, 17592186109955, 2, 0, 0, 0, 0, 0, 0, 0, 0, 0, 0, 0, 0, 0, 0, 0, 0] (by decide) (by decide)).mono ?_
  rintro e w2 ⟨rfl, h2, k⟩
  replace hB := k.blk hB (fun h => by first | omega | (obtain ⟨h1, h2⟩ := h; omega))
  clear k
  clear h
  go_wp2_with fail
  refine (SetField_at 2 1 77 h2 (by unfold w64; omega) 0 [0, 0, 17592186109955, 2, 0, 77, 0, 0, 0, 0, 0, 0, 0, 0, 0, 0, 0, 0, 0, 0] (by decide) (by decide)).mono ?_
  rintro e w3 ⟨rfl, h3, k⟩
  replace hB := k.blk hB (fun h => by first | omega | (obtain ⟨h1, h2⟩ := h; omega))
  clear k
  clear h2
  go_wp2_with fail
  refine (Move_at 2 10 ⟨3, 1, 1, 0, false, false, false⟩ h3 0 [0, 0, 17592186109955, 10, 0, 77, 0, 0, 0, 0, 17596481077251, 10, 0, 77, 0, 0, 0, 0, 0, 0] (by decide) (by decide)).mono ?_
  rintro e w4 ⟨rfl, h4, k⟩
  replace hB := k.blk hB (fun h => by first | omega | (obtain ⟨h1, h2⟩ := h; omega))
  clear k
  clear h3
  go_wp2_with fail
  refine (Field_at 10 1 h4 77 0 (by decide) (by decide)).mono ?_
  rintro e w5 ⟨rfl, h5, k⟩
  replace hB := k.blk hB (fun h => by first | omega | (obtain ⟨h1, h2⟩ := h; omega))
  clear k
  clear h4
  go_wp2_with fail
  refine (Way_at 2 h5 10 0 (way_ok (by omega) (by omega) (by decide) (by omega) (by omega)) (by decide)).mono ?_
  rintro e w6 ⟨rfl, h6, k⟩
  replace hB := k.blk hB (fun h => by first | omega | (obtain ⟨h1, h2⟩ := h; omega))
  clear k
  clear h5
  go_wp2_with fail
  refine (Head_at 10 h6 ⟨3, 1, 1, 0, false, false, false⟩ 0 (head_ok (by decide) (by decide)) (by decide)).mono ?_
  rintro e w7 ⟨rfl, h7, k⟩
  replace hB := k.blk hB (fun h => by first | omega | (obtain ⟨h1, h2⟩ := h; omega))
  clear k
  clear h6
  have hC := Blk.new w7 44 #[.int .i64 3, .int .i64 1, .int .i64 1, .int .i64 0, .bool false, .bool false, .bool false]
  replace h7 := h7.alloc (.cells #[.int .i64 3, .int .i64 1, .int .i64 1, .int .i64 0, .bool false, .bool false, .bool false] 44)
  replace hB := hB.alloc (.cells #[.int .i64 3, .int .i64 1, .int .i64 1, .int .i64 0, .bool false, .bool false, .bool false] 44)
  simp only [Hd.cells]
  have d2 := hC.cell 2
  simp at d2
  have c0 := hB.cell 0
  have c1 := hB.cell 1
  have c2 := hB.cell 2
  have c3 := hB.cell 3
  have c4 := hB.cell 4
  have c5 := hB.cell 5
  have c6 := hB.cell 6
  simp at c0 c1 c2 c3 c4 c5 c6
  go_wp2_with fail
  refine (Words_r ⟨3, 1, 0, 0, false, false, false⟩ _ 5 (by decide)).mono ?_
  rintro e w8 ⟨rfl, k⟩
  clear c0 c1 c2 c3 c4 c5 c6 d2
  replace h7 := h7.stay k
  replace hB := k.blk hB (fun h => h)
  clear k
  have c0 := hB.cell 0
  have c1 := hB.cell 1
  have c2 := hB.cell 2
  have c3 := hB.cell 3
  have c4 := hB.cell 4
  have c5 := hB.cell 5
  have c6 := hB.cell 6
  simp at c0 c1 c2 c3 c4 c5 c6
  go_wp2_with fail
  refine (RGood_r ⟨3, 1, 0, 0, false, false, false⟩ _ true (by decide)).mono ?_
  rintro e w9 ⟨rfl, k⟩
  clear c0 c1 c2 c3 c4 c5 c6
  replace h7 := h7.stay k
  go_wp2_with fail
  go_ret
  exact ⟨by simp, h7.2.1⟩
end Go.Proofs.Ytfaffpmmjlddeaa.Ob
