/- Texts of the whole heap, joined: WrA WiE WrB. No condition beside those that each lemma names. -/
import Derived.Test.YtihmkkjmnbehbaaGreatMg35
import Derived.Test.YtihmkkjmnbehbaaGreatMg38
import Derived.IntWalk
/- Ways in which the heaps of the laws are made: they may be. No condition. -/
set_option linter.unusedVariables false
set_option linter.unusedSimpArgs false
namespace Go.Proofs.YtihmkkjmnbehbaaGreat.Wh
open Go.RowKit Go.Proofs.YtihmkkjmnbehbaaGreat.W
def cdiv (c : Int) : Int := if c % 3 = 0 then 1 else if c % 3 = 1 then 2 else 4
/-- A way of small numbers. -/
def cfg (a b c d : Int) : CF :=
  { h := a % 5 + 2, n := 24 + b % 60, p := b / 16 % 12 + 1, w := 16 + 16 * (a / 64), c := (16 + 16 * (a / 64)) / cdiv c, b := c / 4 % 4, s := c / 16 % 4 + 1, t := c / 64 % 3 + 1, l := d % 8 + 1, mi := d / 8 % 8, ma := d / 64 * 2, mia := 12 + a % 8, maa := b % 3 % 2 }
/-- What is looked at before a heap is made. -/
structure CFmay (c : CF) : Prop where
  ok : CFok c
  md : c.w % c.c = 0
  mi : 0 ≤ c.mia ∧ c.mia ≤ c.n
  ma : 0 ≤ c.maa ∧ c.maa ≤ c.p
def U8 (a : Int) : Prop := 0 ≤ a ∧ a ≤ 255
theorem cdiv_c (c : Int) : cdiv c = 1 ∨ cdiv c = 2 ∨ cdiv c = 4 := by unfold cdiv; split; exact .inl rfl; split; exact .inr (.inl rfl); exact .inr (.inr rfl)
theorem card_ok {a c : Int} (ha : U8 a) : 1 ≤ (16 + 16 * (a / 64)) / cdiv c ∧ (16 + 16 * (a / 64)) / cdiv c ≤ 16 + 16 * (a / 64) ∧ (16 + 16 * (a / 64)) % ((16 + 16 * (a / 64)) / cdiv c) = 0 := by
  obtain ⟨k, hk⟩ : ∃ k, a / 64 = k := ⟨_, rfl⟩
  rw [hk]
  unfold U8 at ha
  have : k = 0 ∨ k = 1 ∨ k = 2 ∨ k = 3 := by omega
  rcases cdiv_c c with e | e | e <;> rw [e] <;> rcases this with e | e | e | e <;> subst e <;> decide
theorem cfg_may {a b c d : Int} (ha : U8 a) (hb : U8 b) (hc : U8 c) (hd : U8 d) : CFmay (cfg a b c d) := by
  obtain ⟨k1, k2, k3⟩ := card_ok (a := a) (c := c) ha
  unfold U8 at ha hb hc hd
  refine ⟨⟨?_, ?_, ?_, ?_, ?_, ?_, ?_, ?_, ?_, ?_, ?_, ?_, ?_, ?_, ?_, ?_, ?_, ?_, ?_, ?_, ?_, ?_, ?_⟩, ?_, ?_, ?_⟩ <;> simp only [cfg] <;> first | exact k1 | exact k2 | exact k3 | omega
end Go.Proofs.YtihmkkjmnbehbaaGreat.Wh
/- A heap's core is made: the walks. Condition: it may be made so. -/
set_option linter.unusedVariables false
set_option linter.unusedSimpArgs false
namespace Go.Proofs.YtihmkkjmnbehbaaGreat.W
section
variable {W w : World} {oo : Nat → Prop} {l T : List Pr} {P Q : Pr}
theorem SepO.weak (h : SepO W oo w l) (k : Nat) (hk : l[k]? = some P) (hi : ∀ w o, P.p w o → Q.p w o) : SepO W oo w (l.set k Q) := by
  obtain ⟨o, hp, _, hup⟩ := h.open_ k hk
  exact hup w Q (Q.mono (hi w o hp) (fun i h => .inl h)) (Keep.refl _ _)
theorem SepO.pack_tail (h : SepO W oo w (l ++ T)) : SepO W oo w (l ++ [sepP T]) := by
  obtain ⟨own, hkp, hs⟩ := h
  refine ⟨fun i => if own i < l.length then own i else if own i < l.length + T.length then l.length else l.length + 1, hkp, fun j R hj => ?_⟩
  rcases Nat.lt_or_ge j l.length with hlt | hge
  · rw [List.getElem?_append_left hlt] at hj
    exact R.mono (hs j R (by rw [List.getElem?_append_left hlt]; exact hj)) (fun i hi => ⟨hi.1, by simp only []; rw [hi.2, if_pos hlt]⟩)
  · rw [List.getElem?_append_right hge] at hj
    have h0 : j - l.length = 0 := by
      rcases Nat.eq_zero_or_pos (j - l.length) with h | h
      · exact h
      · rw [List.getElem?_eq_none (by simp; omega)] at hj; cases hj
    rw [h0] at hj
    simp at hj
    subst hj
    have hjl : j = l.length := by omega
    subst hjl
    refine ⟨fun i => own i - l.length, fun m P hP => P.mono (hs (l.length + m) P (by rw [List.getElem?_append_right (by omega), Nat.add_sub_cancel_left]; exact hP)) (fun i hi => ?_)⟩
    have hm := (List.getElem?_eq_some_iff.1 hP).1
    have h2 := hi.2
    exact ⟨⟨⟨hi.1, by simp only []; rw [if_neg (by omega), if_pos (by omega)]⟩, hi.1.2⟩, by show own i - l.length = m; omega⟩
/-- The last parts, some of them, in another order. -/
theorem SepO.tail_pick {m : List Pr} (h : SepO W oo w (l ++ m)) (σ : List Nat) (hd : σ.Nodup) : SepO W oo w (l ++ σ.map fun k => m[k]?.getD emp) := by
  obtain ⟨own, hkp, hs⟩ := h
  refine ⟨fun i => if own i < l.length then own i else l.length + σ.idxOf (own i - l.length), hkp, fun j Q hj => ?_⟩
  rcases Nat.lt_or_ge j l.length with hlt | hge
  · rw [List.getElem?_append_left hlt] at hj
    exact Q.mono (hs j Q (by rw [List.getElem?_append_left hlt]; exact hj)) (fun i hi => ⟨hi.1, by simp only []; rw [hi.2, if_pos hlt]⟩)
  · rw [List.getElem?_append_right hge, List.getElem?_map] at hj
    rcases Nat.lt_or_ge (j - l.length) σ.length with h2 | h2
    · rw [List.getElem?_eq_getElem h2] at hj
      simp only [Option.map_some, Option.some.injEq] at hj
      cases hm : m[σ[j - l.length]]? with
      | none =>
        rw [hm] at hj
        subst hj
        trivial
      | some P =>
        rw [hm] at hj
        simp only [Option.getD_some] at hj
        subst hj
        refine P.mono (hs (l.length + σ[j - l.length]) P (by rw [List.getElem?_append_right (by omega), Nat.add_sub_cancel_left]; exact hm)) (fun i hi => ⟨hi.1, ?_⟩)
        simp only []
        rw [hi.2, if_neg (by omega), Nat.add_sub_cancel_left, hd.idxOf_getElem _ h2]
        omega
    · rw [List.getElem?_eq_none (by omega)] at hj; cases hj
end
end Go.Proofs.YtihmkkjmnbehbaaGreat.W
namespace Go.Proofs.YtihmkkjmnbehbaaGreat.Wh
open Go.RowKit Go.Proofs.YtihmkkjmnbehbaaGreat.W Go.Proofs.YtihmkkjmnbehbaaGreat.Sm
section
variable {W w : World} {oo : Nat → Prop} {k : CK} {S : CS} {l L : List Pr} {F : FuncId} {args : Array Value} {hb : Nat} {c : CF}
theorem within_l {n a b : Int} (hn : a ≤ n ∧ n ≤ b) (h : SepO W oo w L) : Calls Tryz.prog 101 #[.int .i64 n, .int .i64 a, .int .i64 b] w fun e w' => e = .returned (.bool true) ∧ SepO W oo w' L := by
  obtain ⟨h1, h2⟩ := hn
  have d1 : decide (a ≤ n) = true := by simpa using h1
  have d2 : decide (n ≤ b) = true := by simpa using h2
  have H := Lib.hid h
  clear h
  go_enter Tryz.func101, Tryz.ntmps101
  go_wp2_with fail
  go_ret
  exact ⟨rfl, H.out⟩
theorem all_l {G : Nat} (h0 : w.cell? ⟨G, 0, none⟩ = some (.bool true)) (h1 : w.cell? ⟨G, 1, none⟩ = some (.bool true)) (h2 : w.cell? ⟨G, 2, none⟩ = some (.bool true)) (h3 : w.cell? ⟨G, 3, none⟩ = some (.bool true)) (h : SepO W oo w L) : Calls Tryz.prog 100 #[.slice (some ⟨G, 0, none⟩) 4 4] w fun e w' => e = .returned (.bool true) ∧ SepO W oo w' L := by
  have H := Lib.hid h
  clear h
  go_enter Tryz.func100, Tryz.ntmps100
  go_wp2_with fail
  refine wp_loop_rounds 5 ?_
  rw [rounds_succ]
  go_wp2_with fail
  rw [rounds_succ]
  go_wp2_with fail
  rw [rounds_succ]
  go_wp2_with fail
  rw [rounds_succ]
  go_wp2_with fail
  rw [rounds_succ]
  go_wp2_with fail
  go_ret
  exact ⟨rfl, H.out⟩
theorem half_l (h : SepO W oo w L) (hn : 0 ≤ c.n ∧ c.n ≤ 4096) : Calls Tryz.prog 65 #[.agg c.cells, .int .i64 0] w fun e w' => e = .returned (.int .i64 1) ∧ SepO W oo w' L := by
  have H := Lib.hid h
  clear h
  go_enter Tryz.func65, Tryz.ntmps65
  go_wp2_with fail
  go_ret
  have hb : bits BinOp.and IntKind.i64 0 1 = 0 := by kernel_rfl
  exact ⟨by simp [IntKind.wrap_i64, wrap64, hb], H.out.alloc _⟩
theorem mature_l (h : SepO W oo w L) (hn : 0 ≤ c.n ∧ c.n ≤ 4096) : Calls Tryz.prog 33 #[.agg c.cells] w fun e w' => e = .returned (.int .i64 c.mat) ∧ SepO W oo w' L := by
  have e1 : wrap64 (2 * c.n) = 2 * c.n := by unfold wrap64; omega
  have e2 : wrap64 (1 + 2 * c.n) = 1 + 2 * c.n := by unfold wrap64; omega
  have H := Lib.hid h
  clear h
  unfold CF.mat
  go_enter Tryz.func33, Tryz.ntmps33
  go_wp2_with fail
  go_ret
  exact ⟨rfl, H.out.alloc _⟩
end
section
variable {W w : World} {oo : Nat → Prop} {k : CK} {S : CS} {l L : List Pr} {F : FuncId} {args : Array Value} {hb : Nat} {c : CF}
theorem last_at {P : Pr} : (L ++ [P])[L.length]? = some P := by simp
theorem box_at {z : Nat} (h : SepO W oo w (L ++ [blkP z 24 c.cells])) : w.cell? ⟨z, 0, none⟩ = some (i6 c.h) ∧ w.cell? ⟨z, 1, none⟩ = some (i6 c.n) ∧ w.cell? ⟨z, 2, none⟩ = some (i6 c.p) ∧ w.cell? ⟨z, 3, none⟩ = some (i6 c.w) ∧ w.cell? ⟨z, 4, none⟩ = some (i6 c.c) ∧ w.cell? ⟨z, 5, none⟩ = some (i6 c.b) ∧ w.cell? ⟨z, 6, none⟩ = some (i6 c.s) ∧ w.cell? ⟨z, 7, none⟩ = some (i6 c.t) ∧ w.cell? ⟨z, 8, none⟩ = some (i6 c.l) ∧ w.cell? ⟨z, 9, none⟩ = some (i6 c.mi) ∧ w.cell? ⟨z, 10, none⟩ = some (i6 c.ma) ∧ w.cell? ⟨z, 11, none⟩ = some (i6 c.mia) ∧ w.cell? ⟨z, 12, none⟩ = some (i6 c.maa) := by
  have b := h.blk L.length last_at
  exact ⟨b.cell 0, b.cell 1, b.cell 2, b.cell 3, b.cell 4, b.cell 5, b.cell 6, b.cell 7, b.cell 8, b.cell 9, b.cell 10, b.cell 11, b.cell 12⟩
set_option maxRecDepth 20000 in
set_option maxHeartbeats 4000000 in
theorem words_l (h : SepO W oo w L) (hc : CFok c) : Calls Tryz.prog 32 #[.agg c.cells] w fun e w' => e = .returned (.int .i64 c.words) ∧ SepO W oo w' L := by
  have hnn : 0 ≤ c.n ∧ c.n ≤ 4096 := ⟨by have := hc.n0; omega, hc.n1⟩
  have HN := Lib.hid hnn
  obtain ⟨hn0, hn1⟩ := hnn
  have hpw := hc.pw
  have e1 : IntKind.i64.wrap (c.p * c.w) = c.p * c.w := IntWalk.i64_in _ (by omega)
  have e2 : IntKind.i64.wrap (c.mat + c.p * c.w) = c.words := by unfold CF.words CF.mat; exact IntWalk.i64_in _ (by omega)
  obtain ⟨z, hz⟩ : ∃ z, w.heap.size = z := ⟨_, rfl⟩
  have hB := h.new_blk 24 c.cells
  rw [hz] at hB
  have HB := Lib.hid hB
  obtain ⟨g0, g1, g2, g3, g4, g5, g6, g7, g8, g9, g10, g11, g12⟩ := box_at hB
  have E1 := Lib.hid e1
  have E2 := Lib.hid e2
  clear h hB hc e1 e2 hpw
  go_enter Tryz.func32, Tryz.ntmps32
  go_wp2_with fail
  go_region_held3 (fun w' => w'.cell? ⟨z, 0, none⟩ = some (i6 c.h) ∧ w'.cell? ⟨z, 1, none⟩ = some (i6 c.n) ∧ w'.cell? ⟨z, 2, none⟩ = some (i6 c.p) ∧ w'.cell? ⟨z, 3, none⟩ = some (i6 c.w) ∧ w'.cell? ⟨z, 4, none⟩ = some (i6 c.c) ∧ w'.cell? ⟨z, 5, none⟩ = some (i6 c.b) ∧ w'.cell? ⟨z, 6, none⟩ = some (i6 c.s) ∧ w'.cell? ⟨z, 7, none⟩ = some (i6 c.t) ∧ w'.cell? ⟨z, 8, none⟩ = some (i6 c.l) ∧ w'.cell? ⟨z, 9, none⟩ = some (i6 c.mi) ∧ w'.cell? ⟨z, 10, none⟩ = some (i6 c.ma) ∧ w'.cell? ⟨z, 11, none⟩ = some (i6 c.mia) ∧ w'.cell? ⟨z, 12, none⟩ = some (i6 c.maa)) (first | exact ⟨g0, g1, g2, g3, g4, g5, g6, g7, g8, g9, g10, g11, g12⟩ | exact f0 | go_keep) ((go_at_call 33; (with_reducible refine (mature_l (W := W) (oo := oo) (L := L ++ [blkP z 24 c.cells]) (c := c) ?hx HN.out).mono ?_); (case hx => first | exact HB.out.drew | exact HB.out.drewN _ | exact HB.out); rintro e w1 ⟨rfl, h1⟩; have f0 := box_at h1))
  have H1 := Lib.hid h1
  clear h1 f0
  go_wp2_with fail
  go_ret
  exact ⟨by rw [E1.out, E2.out]; rfl, H1.out.first⟩
set_option maxRecDepth 20000 in
set_option maxHeartbeats 8000000 in
theorem check_l (h : SepO W oo w L) (hc : CFmay c) : Calls Tryz.prog 62 #[.agg c.cells] w fun e w' => e = .returned (.int .i64 0) ∧ SepO W oo w' L := by
  obtain ⟨⟨h0, h1, n0, n1, p0, p1, w0, w1, c0, c1, b0, b1, s0, s1, t0, t1, l0, l1, ln, mi0, mi1, ma0, ma1⟩, md, ⟨mia0, mia1⟩, ⟨maa0, maa1⟩⟩ := hc
  have hmd : c.w.tmod c.c = 0 := by rw [Int.tmod_eq_emod_of_nonneg (by omega)]; exact md
  have hcz : ¬ c.c = 0 := by omega
  have hln : wrap64 (c.l + 2) = c.l + 2 := by unfold wrap64; omega
  obtain ⟨z, hz⟩ : ∃ z, w.heap.size = z := ⟨_, rfl⟩
  have hB := h.new_blk 24 c.cells
  rw [hz] at hB
  have HB := Lib.hid hB
  have HBD := Lib.hid (And.intro h0 (And.intro h1 (And.intro n0 (And.intro n1 (And.intro p0 (And.intro p1 (And.intro w0 w1)))))))
  have HBE := Lib.hid (And.intro b0 (And.intro b1 (And.intro s0 (And.intro s1 (And.intro t0 (And.intro t1 (And.intro l0 l1)))))))
  have HBF := Lib.hid (And.intro mi0 (And.intro mi1 (And.intro ma0 (And.intro ma1 (And.intro mia0 (And.intro mia1 (And.intro maa0 maa1)))))))
  obtain ⟨g0, g1, g2, g3, g4, g5, g6, g7, g8, g9, g10, g11, g12⟩ := box_at hB
  clear h hB md h0 h1 n0 n1 p0 p1 w0 w1 b0 b1 s0 s1 t0 t1 l0 l1 mi0 mi1 ma0 ma1 mia0 mia1 maa0 maa1
  go_enter Tryz.func62, Tryz.ntmps62
  go_wp2_with fail
  go_region_held3 (fun w' => w'.cell? ⟨z, 0, none⟩ = some (i6 c.h) ∧ w'.cell? ⟨z, 1, none⟩ = some (i6 c.n) ∧ w'.cell? ⟨z, 2, none⟩ = some (i6 c.p) ∧ w'.cell? ⟨z, 3, none⟩ = some (i6 c.w) ∧ w'.cell? ⟨z, 4, none⟩ = some (i6 c.c) ∧ w'.cell? ⟨z, 5, none⟩ = some (i6 c.b) ∧ w'.cell? ⟨z, 6, none⟩ = some (i6 c.s) ∧ w'.cell? ⟨z, 7, none⟩ = some (i6 c.t) ∧ w'.cell? ⟨z, 8, none⟩ = some (i6 c.l) ∧ w'.cell? ⟨z, 9, none⟩ = some (i6 c.mi) ∧ w'.cell? ⟨z, 10, none⟩ = some (i6 c.ma) ∧ w'.cell? ⟨z, 11, none⟩ = some (i6 c.mia) ∧ w'.cell? ⟨z, 12, none⟩ = some (i6 c.maa)) (first | exact ⟨g0, g1, g2, g3, g4, g5, g6, g7, g8, g9, g10, g11, g12⟩ | exact f0 | exact (box_at (h9.alloc _)) | exact (box_at ((h9.drewN _).alloc _)) | go_keep) ((first | (go_at_call 101; (with_reducible refine (within_l (W := W) (oo := oo) (L := L ++ [blkP z 24 c.cells]) ?hb ?hx).mono ?_); (case hb => have hbd := HBD.out; omega); (case hx => first | exact h9 | exact h9.drew | exact h9.drewN _ | exact HB.out.drew | exact HB.out.drewN _ | exact HB.out); rintro e w9 ⟨rfl, h9⟩; have f0 := box_at h9) | (go_at_call 100; (with_reducible refine (all_l (W := W) (oo := oo) (L := L ++ [blkP z 24 c.cells]) ?y0 ?y1 ?y2 ?y3 ?hx).mono ?_); (case hx => first | exact h9.alloc _ | exact h9.drew.alloc _ | exact (h9.alloc _).drew | exact (h9.drewN _).alloc _ | exact (h9.alloc _).drewN _); (case y0 => exact (Blk.new _ _ _).cell 0); (case y1 => exact (Blk.new _ _ _).cell 1); (case y2 => exact (Blk.new _ _ _).cell 2); (case y3 => exact (Blk.new _ _ _).cell 3); rintro e w9 ⟨rfl, h9⟩; have f0 := box_at h9)))
  have H1 := Lib.hid h9
  clear h9 f0 HB g0 g1 g2 g3 g4 g5 g6 g7 g8 g9 g10 g11 g12
  obtain ⟨g0, g1, g2, g3, g4, g5, g6, g7, g8, g9, g10, g11, g12⟩ := box_at H1.out
  clear h9
  go_wp2_with fail
  refine (within_l (W := W) (oo := oo) (L := L ++ [blkP z 24 c.cells]) ⟨c0, c1⟩ H1.out).mono ?_
  rintro e w2 ⟨rfl, h2⟩
  clear g0 g1 g2 g3 g4 g5 g6 g7 g8 g9 g10 g11 g12
  obtain ⟨g0, g1, g2, g3, g4, g5, g6, g7, g8, g9, g10, g11, g12⟩ := box_at h2
  have HB := Lib.hid h2
  clear h2 H1
  go_wp2_with fail
  go_region_held3 (fun w' => w'.cell? ⟨z, 0, none⟩ = some (i6 c.h) ∧ w'.cell? ⟨z, 1, none⟩ = some (i6 c.n) ∧ w'.cell? ⟨z, 2, none⟩ = some (i6 c.p) ∧ w'.cell? ⟨z, 3, none⟩ = some (i6 c.w) ∧ w'.cell? ⟨z, 4, none⟩ = some (i6 c.c) ∧ w'.cell? ⟨z, 5, none⟩ = some (i6 c.b) ∧ w'.cell? ⟨z, 6, none⟩ = some (i6 c.s) ∧ w'.cell? ⟨z, 7, none⟩ = some (i6 c.t) ∧ w'.cell? ⟨z, 8, none⟩ = some (i6 c.l) ∧ w'.cell? ⟨z, 9, none⟩ = some (i6 c.mi) ∧ w'.cell? ⟨z, 10, none⟩ = some (i6 c.ma) ∧ w'.cell? ⟨z, 11, none⟩ = some (i6 c.mia) ∧ w'.cell? ⟨z, 12, none⟩ = some (i6 c.maa)) (first | exact ⟨g0, g1, g2, g3, g4, g5, g6, g7, g8, g9, g10, g11, g12⟩ | exact f0 | exact (box_at (h9.alloc _)) | exact (box_at ((h9.drewN _).alloc _)) | go_keep) ((first | (go_at_call 101; (with_reducible refine (within_l (W := W) (oo := oo) (L := L ++ [blkP z 24 c.cells]) ?hb ?hx).mono ?_); (case hb => have hbd := HBE.out; omega); (case hx => first | exact h9 | exact h9.drew | exact h9.drewN _ | exact HB.out.drew | exact HB.out.drewN _ | exact HB.out); rintro e w9 ⟨rfl, h9⟩; have f0 := box_at h9) | (go_at_call 100; (with_reducible refine (all_l (W := W) (oo := oo) (L := L ++ [blkP z 24 c.cells]) ?y0 ?y1 ?y2 ?y3 ?hx).mono ?_); (case hx => first | exact h9.alloc _ | exact h9.drew.alloc _ | exact (h9.alloc _).drew | exact (h9.drewN _).alloc _ | exact (h9.alloc _).drewN _); (case y0 => exact (Blk.new _ _ _).cell 0); (case y1 => exact (Blk.new _ _ _).cell 1); (case y2 => exact (Blk.new _ _ _).cell 2); (case y3 => exact (Blk.new _ _ _).cell 3); rintro e w9 ⟨rfl, h9⟩; have f0 := box_at h9)))
  have H1 := Lib.hid h9
  clear h9 f0 HB g0 g1 g2 g3 g4 g5 g6 g7 g8 g9 g10 g11 g12
  obtain ⟨g0, g1, g2, g3, g4, g5, g6, g7, g8, g9, g10, g11, g12⟩ := box_at H1.out
  have HB := Lib.hid H1.out
  clear h9 H1
  go_wp2_with fail
  go_region_held3 (fun w' => w'.cell? ⟨z, 0, none⟩ = some (i6 c.h) ∧ w'.cell? ⟨z, 1, none⟩ = some (i6 c.n) ∧ w'.cell? ⟨z, 2, none⟩ = some (i6 c.p) ∧ w'.cell? ⟨z, 3, none⟩ = some (i6 c.w) ∧ w'.cell? ⟨z, 4, none⟩ = some (i6 c.c) ∧ w'.cell? ⟨z, 5, none⟩ = some (i6 c.b) ∧ w'.cell? ⟨z, 6, none⟩ = some (i6 c.s) ∧ w'.cell? ⟨z, 7, none⟩ = some (i6 c.t) ∧ w'.cell? ⟨z, 8, none⟩ = some (i6 c.l) ∧ w'.cell? ⟨z, 9, none⟩ = some (i6 c.mi) ∧ w'.cell? ⟨z, 10, none⟩ = some (i6 c.ma) ∧ w'.cell? ⟨z, 11, none⟩ = some (i6 c.mia) ∧ w'.cell? ⟨z, 12, none⟩ = some (i6 c.maa)) (first | exact ⟨g0, g1, g2, g3, g4, g5, g6, g7, g8, g9, g10, g11, g12⟩ | exact f0 | exact (box_at (h9.alloc _)) | exact (box_at ((h9.drewN _).alloc _)) | go_keep) ((first | (go_at_call 101; (with_reducible refine (within_l (W := W) (oo := oo) (L := L ++ [blkP z 24 c.cells]) ?hb ?hx).mono ?_); (case hb => have hbd := HBF.out; omega); (case hx => first | exact h9 | exact h9.drew | exact h9.drewN _ | exact HB.out.drew | exact HB.out.drewN _ | exact HB.out); rintro e w9 ⟨rfl, h9⟩; have f0 := box_at h9) | (go_at_call 100; (with_reducible refine (all_l (W := W) (oo := oo) (L := L ++ [blkP z 24 c.cells]) ?y0 ?y1 ?y2 ?y3 ?hx).mono ?_); (case hx => first | exact h9.alloc _ | exact h9.drew.alloc _ | exact (h9.alloc _).drew | exact (h9.drewN _).alloc _ | exact (h9.alloc _).drewN _); (case y0 => exact (Blk.new _ _ _).cell 0); (case y1 => exact (Blk.new _ _ _).cell 1); (case y2 => exact (Blk.new _ _ _).cell 2); (case y3 => exact (Blk.new _ _ _).cell 3); rintro e w9 ⟨rfl, h9⟩; have f0 := box_at h9)))
  have H1 := Lib.hid h9
  clear h9 f0 HB g0 g1 g2 g3 g4 g5 g6 g7 g8 g9 g10 g11 g12
  obtain ⟨g0, g1, g2, g3, g4, g5, g6, g7, g8, g9, g10, g11, g12⟩ := box_at H1.out
  clear h9
  go_wp2_with fail
  go_ret
  exact ⟨rfl, H1.out.first⟩
theorem aNew_l (n : Int) (n0 : 0 ≤ n) (n1 : n ≤ 1048576) (h : SepO W oo w L) : Calls Tryz.prog 63 #[.int .i64 n] w fun e w' => ∃ b, e = .returned (pt b) ∧ SepO W oo w' (L ++ [Oba b (List.replicate n.toNat 0)]) :=
  (Ar.New_calls n w).mono fun e w' ⟨b, he, hr, hk⟩ => by
    rw [Ar.clampN_id n0 n1] at hr
    exact ⟨b, he, h.add (P := Oba b _) hk ⟨⟨0, hr⟩, fun i => by
      by_cases hi : i < n.toNat
      · simp [hi, Ob.w64]
      · simp [hi, Ob.w64]⟩⟩
theorem yNew_l (n : Int) (n0 : 0 ≤ n) (n1 : n ≤ 4096) (h : SepO W oo w L) : Calls Tryz.prog 64 #[.int .i64 1, .int .i64 n] w fun e w' => ∃ b, e = .returned (pt b) ∧ SepO W oo w' (L ++ [Bmp b ⟨1, 0, 1 + n, 0, n, false⟩]) :=
  (Bp.New_calls 1 n w).mono fun e w' ⟨b, he, hr, hk⟩ => by
    have e1 : Bp.clampN 1 = 1 := rfl
    have e2 : Bp.clampN n = n := by unfold Bp.clampN; rw [if_neg (by omega), if_neg (by omega)]
    rw [e1, e2] at hr
    exact ⟨b, he, h.add (P := Bmp b _) hk hr⟩
theorem tNew_l (n : Int) (n0 : 0 ≤ n) (n1 : n ≤ 64) (h : SepO W oo w L) : Calls Tryz.prog 69 #[.int .i64 n] w fun e w' => ∃ b, e = .returned (pt b) ∧ SepO W oo w' (L ++ [Tbl b (List.replicate n.toNat 0)]) :=
  (Tab.New_calls n w).mono fun e w' ⟨b, he, hr, hk⟩ => by
    have e2 : Tab.newN n = n.toNat := by unfold Tab.newN; rw [if_neg (by omega), if_neg (by omega)]
    rw [e2] at hr
    exact ⟨b, he, h.add (P := Tbl b _) hk hr⟩
theorem gNew_l (n : Int) (n0 : 0 ≤ n) (n1 : n ≤ 256) (h : SepO W oo w L) : Calls Tryz.prog 68 #[.int .i64 n] w fun e w' => ∃ b, e = .returned (pt b) ∧ SepO W oo w' (L ++ [Gy.Stk b n [] false]) := by
  have := Gy.New_sep n h
  rwa [Gy.clampN_id (by omega) (by omega)] at this
theorem rNew_l (hc : CFok c) (h : SepO W oo w L) : Calls Tryz.prog 67 #[.int .i64 c.mat, .int .i64 (c.p * c.w), .int .i64 c.c, .int .i64 c.b] w fun e w' => ∃ b, e = .returned (pt b) ∧ SepO W oo w' (L ++ [Re.Rms b (cnew c).r]) := by
  have n0 := hc.n0; have n1 := hc.n1; have pw := hc.pw; have c0 := hc.c0; have c1 := hc.c1; have w1 := hc.w1
  have e1 : Cd.clampN c.mat = c.mat := by unfold Cd.clampN CF.mat; rw [if_neg (by omega), if_neg (by omega)]
  have e2 : Cd.clampN (c.p * c.w) = c.p * c.w := by unfold Cd.clampN; rw [if_neg (by omega), if_neg (by omega)]
  have e3 : Cd.clamp1 c.c = c.c := by unfold Cd.clamp1; rw [if_neg (by omega), if_neg (by omega)]
  have := Re.New_sep c.mat (c.p * c.w) c.c c.b h
  rw [e1, e2, e3] at this
  exact this
set_option maxRecDepth 20000 in
set_option maxHeartbeats 8000000 in
theorem coreNew_l (hc : CFmay c) (h : SepO W oo w L) : Calls Tryz.prog 34 #[.agg c.cells] w fun e w' => ∃ k : CK, e = .returned (.tuple #[pt k.c, .int .i64 0]) ∧ SepO W oo w' (L ++ cparts k (cnew c)) := by
  have hck := hc.ok
  have hnn : 0 ≤ c.n ∧ c.n ≤ 4096 := ⟨by have := hck.n0; omega, hck.n1⟩
  have hpw := hck.pw
  have hh : 0 ≤ c.h ∧ c.h ≤ 64 := ⟨by have := hck.h0; omega, hck.h1⟩
  have hs : 0 ≤ c.s ∧ c.s ≤ 256 := ⟨by have := hck.s0; omega, hck.s1⟩
  have hwd : 0 ≤ c.words ∧ c.words ≤ 1048576 := by unfold CF.words CF.mat; omega
  have e1 : IntKind.i64.wrap (c.p * c.w) = c.p * c.w := IntWalk.i64_in _ (by omega)
  obtain ⟨z, hz⟩ : ∃ z, w.heap.size = z := ⟨_, rfl⟩
  have hB := h.new_blk 24 c.cells
  rw [hz] at hB
  have HB := Lib.hid hB
  have HM := Lib.hid hc
  have HK := Lib.hid hck
  have HN := Lib.hid hnn
  have HH := Lib.hid hh
  have HS := Lib.hid hs
  have HW := Lib.hid hwd
  have E1 := Lib.hid e1
  obtain ⟨g0, g1, g2, g3, g4, g5, g6, g7, g8, g9, g10, g11, g12⟩ := box_at hB
  clear h hB hc hck hnn hpw hh hs hwd e1
  go_enter Tryz.func34, Tryz.ntmps34
  go_wp2_with fail
  refine (check_l (W := W) (oo := oo) (L := L ++ [blkP z 24 c.cells]) HB.out HM.out).mono ?_
  rintro e w1 ⟨rfl, h1⟩
  clear g0 g1 g2 g3 g4 g5 g6 g7 g8 g9 g10 g11 g12
  obtain ⟨g0, g1, g2, g3, g4, g5, g6, g7, g8, g9, g10, g11, g12⟩ := box_at h1
  have H1 := Lib.hid h1
  clear h1 HB
  go_wp2_with fail
  go_region_held3 (fun w' => w'.cell? ⟨z, 0, none⟩ = some (i6 c.h) ∧ w'.cell? ⟨z, 1, none⟩ = some (i6 c.n) ∧ w'.cell? ⟨z, 2, none⟩ = some (i6 c.p) ∧ w'.cell? ⟨z, 3, none⟩ = some (i6 c.w) ∧ w'.cell? ⟨z, 4, none⟩ = some (i6 c.c) ∧ w'.cell? ⟨z, 5, none⟩ = some (i6 c.b) ∧ w'.cell? ⟨z, 6, none⟩ = some (i6 c.s) ∧ w'.cell? ⟨z, 7, none⟩ = some (i6 c.t) ∧ w'.cell? ⟨z, 8, none⟩ = some (i6 c.l) ∧ w'.cell? ⟨z, 9, none⟩ = some (i6 c.mi) ∧ w'.cell? ⟨z, 10, none⟩ = some (i6 c.ma) ∧ w'.cell? ⟨z, 11, none⟩ = some (i6 c.mia) ∧ w'.cell? ⟨z, 12, none⟩ = some (i6 c.maa)) (first | exact ⟨g0, g1, g2, g3, g4, g5, g6, g7, g8, g9, g10, g11, g12⟩ | exact f0 | go_keep) ((go_at_call 33; (with_reducible refine (mature_l (W := W) (oo := oo) (L := L ++ [blkP z 24 c.cells]) (c := c) ?hx HN.out).mono ?_); (case hx => first | exact H1.out.drew | exact H1.out.drewN _ | exact H1.out); rintro e w2 ⟨rfl, h2⟩; have f0 := box_at h2))
  clear f0 g0 g1 g2 g3 g4 g5 g6 g7 g8 g9 g10 g11 g12
  obtain ⟨g0, g1, g2, g3, g4, g5, g6, g7, g8, g9, g10, g11, g12⟩ := box_at h2
  have H2 := Lib.hid h2
  clear h2 H1
  go_wp2_with fail
  rw [E1.out]
  go_region_held3 (fun w' => w'.cell? ⟨z, 0, none⟩ = some (i6 c.h) ∧ w'.cell? ⟨z, 1, none⟩ = some (i6 c.n) ∧ w'.cell? ⟨z, 2, none⟩ = some (i6 c.p) ∧ w'.cell? ⟨z, 3, none⟩ = some (i6 c.w) ∧ w'.cell? ⟨z, 4, none⟩ = some (i6 c.c) ∧ w'.cell? ⟨z, 5, none⟩ = some (i6 c.b) ∧ w'.cell? ⟨z, 6, none⟩ = some (i6 c.s) ∧ w'.cell? ⟨z, 7, none⟩ = some (i6 c.t) ∧ w'.cell? ⟨z, 8, none⟩ = some (i6 c.l) ∧ w'.cell? ⟨z, 9, none⟩ = some (i6 c.mi) ∧ w'.cell? ⟨z, 10, none⟩ = some (i6 c.ma) ∧ w'.cell? ⟨z, 11, none⟩ = some (i6 c.mia) ∧ w'.cell? ⟨z, 12, none⟩ = some (i6 c.maa)) (first | exact ⟨g0, g1, g2, g3, g4, g5, g6, g7, g8, g9, g10, g11, g12⟩ | exact f1 | exact f2 | exact f3 | exact f4 | exact f5 | exact f6 | exact f7 | exact f8 | go_keep) ((first | (go_at_call 32; (with_reducible refine (words_l (W := W) (oo := oo) (L := L ++ [blkP z 24 c.cells]) (c := c) ?hx HK.out).mono ?_); (case hx => first | exact H2.out | exact H2.out.drew | exact H2.out.drewN _); rintro e x1 ⟨rfl, h1⟩; have f1 := box_at h1) | (go_at_call 63; (with_reducible refine (aNew_l (W := W) (oo := oo) (L := L ++ [blkP z 24 c.cells]) c.words HW.out.1 HW.out.2 ?hx).mono ?_); (case hx => first | exact h1 | exact h1.drew | exact h1.drewN _); rintro e x2 ⟨ba, rfl, h2⟩; have f2 := box_at h2.first) | (go_at_call 65; (with_reducible refine (half_l (W := W) (oo := oo) (L := L ++ [blkP z 24 c.cells] ++ [Oba ba (List.replicate c.words.toNat 0)]) (c := c) ?hx HN.out).mono ?_); (case hx => first | exact h2 | exact h2.drew | exact h2.drewN _); rintro e x3 ⟨rfl, h3⟩; have f3 := box_at h3.first) | (go_at_call 64; (with_reducible refine (yNew_l (W := W) (oo := oo) (L := L ++ [blkP z 24 c.cells] ++ [Oba ba (List.replicate c.words.toNat 0)]) c.n HN.out.1 HN.out.2 ?hx).mono ?_); (case hx => first | exact h3 | exact h3.drew | exact h3.drewN _); rintro e x4 ⟨by_, rfl, h4⟩; have f4 := box_at h4.first.first) | (go_at_call 66; (with_reducible refine (Ma.New_sep c.mat c.p c.w (W := W) (oo := oo) (l := L ++ [blkP z 24 c.cells] ++ [Oba ba (List.replicate c.words.toNat 0)] ++ [Bmp by_ ⟨1, 0, 1 + c.n, 0, c.n, false⟩]) ?hx).mono ?_); (case hx => first | exact h4 | exact h4.drew | exact h4.drewN _); rintro e x5 ⟨bo, rfl, h5⟩; have f5 := box_at h5.first.first.first) | (go_at_call 67; (with_reducible refine (rNew_l (W := W) (oo := oo) (L := L ++ [blkP z 24 c.cells] ++ [Oba ba (List.replicate c.words.toNat 0)] ++ [Bmp by_ ⟨1, 0, 1 + c.n, 0, c.n, false⟩] ++ [Ma.Mat bo (Ma.mnew c.mat c.p c.w)]) (c := c) HK.out ?hx).mono ?_); (case hx => first | exact h5 | exact h5.drew | exact h5.drewN _); rintro e x6 ⟨br, rfl, h6⟩; have f6 := box_at h6.first.first.first.first) | (go_at_call 68; (with_reducible refine (gNew_l (W := W) (oo := oo) (L := L ++ [blkP z 24 c.cells] ++ [Oba ba (List.replicate c.words.toNat 0)] ++ [Bmp by_ ⟨1, 0, 1 + c.n, 0, c.n, false⟩] ++ [Ma.Mat bo (Ma.mnew c.mat c.p c.w)] ++ [Re.Rms br (cnew c).r]) c.s HS.out.1 HS.out.2 ?hx).mono ?_); (case hx => first | exact h6 | exact h6.drew | exact h6.drewN _); rintro e x7 ⟨bg, rfl, h7⟩; have f7 := box_at h7.first.first.first.first.first) | (go_at_call 69; (with_reducible refine (tNew_l (W := W) (oo := oo) (L := L ++ [blkP z 24 c.cells] ++ [Oba ba (List.replicate c.words.toNat 0)] ++ [Bmp by_ ⟨1, 0, 1 + c.n, 0, c.n, false⟩] ++ [Ma.Mat bo (Ma.mnew c.mat c.p c.w)] ++ [Re.Rms br (cnew c).r] ++ [Gy.Stk bg c.s [] false]) c.h HH.out.1 HH.out.2 ?hx).mono ?_); (case hx => first | exact h7 | exact h7.drew | exact h7.drewN _); rintro e x8 ⟨bt, rfl, h8⟩; have f8 := box_at h8.first.first.first.first.first.first)))
  have H8 := Lib.hid h8
  clear h1 h2 h3 h4 h5 h6 h7 h8 f1 f2 f3 f4 f5 f6 f7 f8 g0 g1 g2 g3 g4 g5 g6 g7 g8 g9 g10 g11 g12 H2 HM HK HN HH HS HW E1
  go_wp2_with fail
  go_ret2
  have h9 := (H8.out.new_blk 57 (ccells ⟨0, ba, by_, bo, br, bg, bt, none, 0⟩ (cnew c))).nil_row 3
  simp only [List.append_assoc, List.cons_append, List.nil_append] at h9
  refine ⟨⟨x8.heap.size, ba, by_, bo, br, bg, bt, none, 0⟩, rfl, ?_⟩
  exact h9.tail_pick [7, 1, 2, 3, 4, 5, 6, 8] (by decide)
end
end Go.Proofs.YtihmkkjmnbehbaaGreat.Wh
/- Entries of a script, over the graph that a heap stands for; room at the start. No condition. -/
set_option linter.unusedVariables false
set_option linter.unusedSimpArgs false
namespace Go.Proofs.YtihmkkjmnbehbaaGreat.Wh
open Go.RowKit Go.Proofs.YtihmkkjmnbehbaaGreat.W
/-- A heap, made in one way, that stands for a graph. -/
def GG (c : CF) (S : CS) (G : Gr.GS) : Prop := (∃ m R, Good S m R G) ∧ S.c = c
theorem GG.ok {c : CF} {S : CS} {G : Gr.GS} (h : GG c S G) : Ok S := by obtain ⟨⟨m, R, h⟩, _⟩ := h; exact ⟨m, R, G, h⟩
theorem GG.gok {c : CF} {S : CS} {G : Gr.GS} (h : GG c S G) : G.ok := by obtain ⟨⟨m, R, h⟩, _⟩ := h; exact h.inv.sim.gok
theorem GG.new {c : CF} (h : CFok c) : GG c (cnew c) (Gr.gnew c.h c.l) := ⟨⟨_, _, Good.new h⟩, rfl⟩
section
variable {c : CF} {S : CS} {G : Gr.GS}
theorem GG.any (h : GG c S G) (x : A5) (hx : x.wf) : (x.kind = 1 ∧ (S.doS x).1 = erA 7 ∧ (Gr.gdo G x).1 = Gr.err 0 ∧ GG c (S.doS x).2 G) ∨ (seenA x (S.doS x).1 = toAn (Gr.gdo G x).1 ∧ GG c (S.doS x).2 (Gr.gdo G x).2) := by
  obtain ⟨⟨m, R, h⟩, hc⟩ := h
  obtain ⟨e, h1⟩ := h.doS x hx
  rcases h1 with ⟨k, a, a2, m', R', g⟩ | ⟨a, m', R', g⟩
  · exact .inl ⟨k, a, a2, ⟨m', R', g⟩, e.trans hc⟩
  · exact .inr ⟨a, ⟨m', R', g⟩, e.trans hc⟩
/-- An entry that is neither of cycles nor makes anything. -/
theorem GG.do_ (h : GG c S G) (x : A5) (hx : x.wf) (h1 : x.kind ≠ 1) (h2 : x.kind ≠ 11) (h3 : x.kind ≠ 12) : (S.doS x).1 = toAn (Gr.gdo G x).1 ∧ GG c (S.doS x).2 (Gr.gdo G x).2 := by
  rcases h.any x hx with ⟨k, _⟩ | ⟨a, g⟩
  · exact (h1 k).elim
  · refine ⟨?_, g⟩
    unfold seenA at a
    rwa [if_neg (by omega)] at a
/-- An entry of cycles alone. -/
theorem GG.idle (h : GG c S G) (x : A5) (hx : x.wf) (h1 : x.kind = 11 ∨ x.kind = 12) : GG c (S.doS x).2 G := by
  rcases h.any x hx with ⟨k, _⟩ | ⟨a, g⟩
  · omega
  · have e : (Gr.gdo G x).2 = G := by
      unfold Gr.gdo
      rw [if_neg (by omega), if_neg (by omega), if_neg (by omega), if_neg (by omega), if_neg (by omega), if_neg (by omega), if_neg (by omega), if_neg (by omega), if_neg (by omega), if_neg (by omega), if_pos h1]
    rwa [e] at g
/-- What is made: a node, or there is no room. -/
theorem GG.make (h : GG c S G) (x : A5) (hx : x.wf) (h1 : x.kind = 1) : ((S.doS x).1 = erA 7 ∧ GG c (S.doS x).2 G) ∨ ((S.doS x).1 = erA (Gr.gmake G x.a x.b x.c).1 ∧ GG c (S.doS x).2 (Gr.gmake G x.a x.b x.c).2) := by
  have e : Gr.gdo G x = Gr.ans (Gr.gmake G x.a x.b x.c) := by unfold Gr.gdo; rw [if_pos h1]
  rcases h.any x hx with ⟨_, a, _, g⟩ | ⟨a, g⟩
  · exact .inl ⟨a, g⟩
  · right
    rw [e] at a g
    refine ⟨?_, g⟩
    unfold seenA at a
    rw [if_neg (by omega)] at a
    exact a
/-- No cycle of the nursery has begun yet, and so many words are used. -/
def St (S : CS) (u : Int) : Prop := S.mv = false ∧ S.y.used = u
theorem St.new (c : CF) : St (cnew c) 0 := ⟨rfl, rfl⟩
theorem minRun_id (h : S.mv = false) (w : Int) : (S.minRun w).2 = S := by
  unfold CS.minRun
  cases w.toNat with
  | zero => rfl
  | succ k =>
    unfold CS.runG
    have : S.minStep = ((0, false), S) := by unfold CS.minStep; rw [if_pos h]
    rw [this]
    split <;> rfl
theorem Good.tax0 {m : Mp} {R : Nat → Prop} (h : Good S m R G) {u : Int} (hs : St S u) (hu : u < S.c.mia) (words : Int) : Far S (S.tax words) := by
  unfold CS.tax
  rw [if_neg (by rw [hs.2]; omega)]
  simp only []
  have b : ∃ m' R', Good (if S.ph = 0 ∧ (Ma.freeN S.o.l : Int) ≤ S.c.maa then S.majStart.2 else S) m' R' G ∧ Far S (if S.ph = 0 ∧ (Ma.freeN S.o.l : Int) ≤ S.c.maa then S.majStart.2 else S) := by
    split
    · obtain ⟨m', h1, h2, _⟩ := h.majStart; exact ⟨m', R, h1, h2⟩
    · exact ⟨m, R, h, Far.refl S⟩
  obtain ⟨m2, R2, h2, f2⟩ := b
  generalize (if S.ph = 0 ∧ (Ma.freeN S.o.l : Int) ≤ S.c.maa then S.majStart.2 else S) = S2 at h2 f2 ⊢
  have e : (S2.minRun (quant words S2.c.mi)).2 = S2 := minRun_id (f2.mv.trans hs.1) _
  rw [e]
  exact f2.trans (far_run _ _ _ h2)
theorem make_st {u : Int} (hm : S.y.m = S.c.n) (h : St S u) (hu : 0 ≤ u) {x b d : Int} (hb : 0 ≤ b ∧ 0 ≤ d ∧ b + d ≤ 64) (hf : u + b + d + 2 ≤ S.c.n) (hh : (S.get x).2 = 0) (hs : S.shape b d = true) (ht : Tab.setE S.tb x = 0) :
    (S.make x b d).1 = 0 ∧ St (S.make x b d).2 (u + b + d + 2) := by
  unfold CS.make
  rw [hh, hs]
  dsimp only
  rw [if_neg (by simp), if_neg (by simp)]
  have kw : Ob.wordsOf ⟨b + d, b, 0, S.par, false, false, false⟩ = b + d + 2 := by unfold Ob.wordsOf; simp only []; split <;> (try split) <;> omega
  rw [kw]
  have hr : S.room (b + d + 2) = true := by
    unfold CS.room Bp.Sp.room
    rw [h.1, h.2, hm]; simp; omega
  rw [if_neg (by rw [hr]; simp)]
  have hfit : S.y.fits (b + d + 2) = true := by unfold Bp.Sp.fits Bp.Sp.room; rw [hm, h.2]; simp; omega
  refine ⟨ht, h.1, ?_⟩
  show (S.y.take (b + d + 2)).used = _
  rw [(take_y hfit).2.2.2.1, h.2]; omega
/-- There is room at the start. -/
theorem GG.first (h : GG c S G) {u : Int} (hs : St S u) (hu : 0 ≤ u ∧ u < c.mia) {x b d : Int} (v : Int) (hx : (⟨1, x, b, d, v⟩ : A5).wf) (hb : 0 ≤ b ∧ 0 ≤ d ∧ b + d ≤ c.l) (hf : u + b + d + 2 ≤ c.n) (hh : Gr.has G x = true) :
    (S.doS ⟨1, x, b, d, v⟩).1 = erA 0 ∧ GG c (S.doS ⟨1, x, b, d, v⟩).2 (Gr.gmake G x b d).2 ∧ St (S.doS ⟨1, x, b, d, v⟩).2 (u + b + d + 2) := by
  have key : (S.doS ⟨1, x, b, d, v⟩).1 = erA 0 ∧ St (S.doS ⟨1, x, b, d, v⟩).2 (u + b + d + 2) := by
    obtain ⟨⟨m, R, h⟩, hc⟩ := h
    have f := h.tax0 hs (by rw [hc]; exact hu.2) (b + d + 2)
    obtain ⟨m1, R1, h1, c1⟩ := h.tax (b + d + 2)
    have g1 := h1.inv.geo
    have l1 := g1.cf.l1
    rw [c1, hc] at l1
    have e : S.doS ⟨1, x, b, d, v⟩ = (erA ((S.tax (b + d + 2)).make x b d).1, ((S.tax (b + d + 2)).make x b d).2) := by
      unfold CS.doS; rw [if_pos rfl]; unfold CS.doMake; dsimp only
      rw [if_pos (by rw [hc]; omega)]
    rw [e]
    have hst : St (S.tax (b + d + 2)) u := ⟨f.mv.trans hs.1, by rw [f.y]; exact hs.2⟩
    have hsh : (S.tax (b + d + 2)).shape b d = true := by
      unfold CS.shape; rw [c1, hc]
      simp; omega
    obtain ⟨k1, v', e', k2, k3, _⟩ : Gr.has G x = true ∧ ∃ v, (S.tax (b + d + 2)).get x = (v, 0) ∧ 0 ≤ x ∧ x.toNat < (S.tax (b + d + 2)).tb.length ∧ True := by
      rcases h1.get x with ⟨k1, _⟩ | ⟨k1, v, e, k2, k3, _⟩
      · rw [hh] at k1; cases k1
      · exact ⟨k1, v, e, k2, k3, trivial⟩
    have := make_st (x := x) (b := b) (d := d) (by rw [g1.y3]) hst hu.1 (by omega) (by rw [c1, hc]; omega) (by rw [e']) hsh (by unfold Tab.setE; rw [if_pos (by omega)])
    exact ⟨by rw [this.1], this.2⟩
  refine ⟨key.1, ?_, key.2⟩
  rcases h.make ⟨1, x, b, d, v⟩ hx rfl with ⟨a, _⟩ | ⟨a, g⟩
  · rw [key.1] at a; simp [erA] at a
  · exact g
theorem St.write {u : Int} (h : St S u) (a b d v : Int) : St (S.doS ⟨5, a, b, d, v⟩).2 u := by
  unfold CS.doS
  rw [if_neg (by simp), if_neg (by simp), if_neg (by simp), if_pos rfl]
  unfold CS.writeF pr1
  dsimp only
  split
  · exact h
  · split <;> exact h
end
end Go.Proofs.YtihmkkjmnbehbaaGreat.Wh
