/- Texts of the whole heap, joined: WiG. No condition beside those that each lemma names. -/
import Derived.Test.YtihmkkjmnbehbaaGreatMg40
/- What only asks: the walk. Condition: the heap is as it should be. -/
set_option linter.unusedVariables false
set_option linter.unusedSimpArgs false
namespace Go.Proofs.YtihmkkjmnbehbaaGreat.Wh
open Go.RowKit Go.Proofs.YtihmkkjmnbehbaaGreat.W Go.Proofs.YtihmkkjmnbehbaaGreat.Sm
section
variable {W w : World} {oo : Nat → Prop} {k : CK} {S : CS} {l L : List Pr} {F : FuncId} {args : Array Value} {hb : Nat} {c : CF}
theorem last_put {M : List Pr} {z : Nat} {t : TypeId} {cs : Array Value} (h : SepO W oo w (cparts k S ++ (M ++ [blkP z t cs]))) (j : Nat) (v : Value) : SepO W oo (w.setCell ⟨z, j, none⟩ v) (cparts k S ++ (M ++ [blkP z t (cs.setIfInBounds j v)])) := by
  have := h.set_blk (8 + M.length) c_last j v
  rwa [c_last_set] at this
abbrev f3L (hb : Nat) (k : CK) (l : List Pr) (z : Nat) (x : A5) (a b : An) : List Pr := frL hb k l z x a ++ [anP (z + 1 + 1) b]
theorem f3_at {z : Nat} {x : A5} {a b : An} (h : SepO W oo w (cparts k S ++ f3L hb k l z x a b)) :
    (w.cell? ⟨hb, 0, none⟩ = some (pt k.c) ∧ w.cell? ⟨z, 0, none⟩ = some (i6 x.kind) ∧ w.cell? ⟨z, 1, none⟩ = some (i6 x.a) ∧ w.cell? ⟨z, 2, none⟩ = some (i6 x.b) ∧ w.cell? ⟨z, 3, none⟩ = some (i6 x.c) ∧ w.cell? ⟨z, 4, none⟩ = some (.int .u64 x.v)) ∧
    (w.cell? ⟨z + 1, 0, none⟩ = some (i6 a.e) ∧ w.cell? ⟨z + 1, 1, none⟩ = some (.bool a.yes) ∧ w.cell? ⟨z + 1, 2, none⟩ = some (i6 a.n) ∧ w.cell? ⟨z + 1, 3, none⟩ = some (.int .u64 a.v) ∧ (∀ j, w.frozen? ⟨z + 1, j, none⟩ = false) ∧ hb < w.heap.size ∧ z < w.heap.size ∧ z + 1 < w.heap.size) ∧
    (w.cell? ⟨z + 1 + 1, 0, none⟩ = some (i6 b.e) ∧ w.cell? ⟨z + 1 + 1, 1, none⟩ = some (.bool b.yes) ∧ w.cell? ⟨z + 1 + 1, 2, none⟩ = some (i6 b.n) ∧ w.cell? ⟨z + 1 + 1, 3, none⟩ = some (.int .u64 b.v) ∧ (∀ j, w.frozen? ⟨z + 1 + 1, j, none⟩ = false) ∧ z + 1 + 1 < w.heap.size) := by
  obtain ⟨h1, h2⟩ := fr_at (c_drop h)
  exact ⟨h1, h2, an_at h c_last⟩
theorem f3_in (x : A5) (a b : An) (h : SepO W oo w (cparts k S ++ (hbP hb k :: l))) : ∃ z, w.heap.size = z ∧ hb < z ∧ SepO W oo (((w.alloc (.cells #[i6 x.kind, i6 x.a, i6 x.b, i6 x.c, .int .u64 x.v] 36)).alloc (.cells #[i6 a.e, .bool a.yes, i6 a.n, .int .u64 a.v] 33)).alloc (.cells #[i6 b.e, .bool b.yes, i6 b.n, .int .u64 b.v] 33)) (cparts k S ++ f3L hb k l z x a b) := by
  have hz := c_add (c_add (c_add h 36 #[i6 x.kind, i6 x.a, i6 x.b, i6 x.c, .int .u64 x.v]) 33 #[i6 a.e, .bool a.yes, i6 a.n, .int .u64 a.v]) 33 #[i6 b.e, .bool b.yes, i6 b.n, .int .u64 b.v]
  obtain ⟨_, hbl⟩ := h_at h
  obtain ⟨z, hzz⟩ : ∃ z, w.heap.size = z := ⟨_, rfl⟩
  have hz1 : (w.alloc (.cells #[i6 x.kind, i6 x.a, i6 x.b, i6 x.c, .int .u64 x.v] 36)).heap.size = z + 1 := by rw [← hzz]; simp
  have hz2 : ((w.alloc (.cells #[i6 x.kind, i6 x.a, i6 x.b, i6 x.c, .int .u64 x.v] 36)).alloc (.cells #[i6 a.e, .bool a.yes, i6 a.n, .int .u64 a.v] 33)).heap.size = z + 1 + 1 := by rw [← hzz]; simp
  rw [hz2, hz1, hzz] at hz
  exact ⟨z, hzz, by omega, hz⟩
set_option maxRecDepth 20000 in
set_option maxHeartbeats 8000000 in
theorem asks_in (x : A5) (hx : x.wf) (h : SepO W oo w (cparts k S ++ (hbP hb k :: l))) : Calls Tryz.prog 43 #[pt hb, stV x] w fun e w' => e = .returned (S.asks x).val ∧ SepO W oo w' (cparts k S ++ (hbP hb k :: l)) := by
  obtain ⟨c0, hbl⟩ := h_at h
  obtain ⟨R, hR⟩ : ∃ R, S.asks x = R := ⟨_, rfl⟩
  rw [hR]
  obtain ⟨z, hzz, hbz, hz⟩ := f3_in x an0 an0 h
  have nb1 : ¬ hb = z + 1 := by omega
  have nb2 : ¬ hb = z + 2 := by omega
  have nb0 : ¬ hb = z := by omega
  obtain ⟨kd, xa, xb, xc, xv⟩ := x
  obtain ⟨hx0, ⟨hx1, hx1'⟩, ⟨hx2, hx2'⟩, ⟨hx3, hx3'⟩, ⟨hx4, hx4'⟩⟩ := hx
  simp only [] at hx0 hx1 hx1' hx2 hx2' hx3 hx3' hx4 hx4' hz
  unfold CS.asks at hR
  simp only [] at hR
  have HZ := Lib.hid hz
  have H := Lib.hid h
  have q0 := (f3_at hz).1
  simp only [] at q0
  by_cases k4 : kd = 4
  · subst k4
    rw [if_pos rfl] at hR
    obtain ⟨T, hT⟩ : ∃ T, S.readF xa xb = T := ⟨_, rfl⟩
    rw [hT] at hR
    obtain rfl : R = ⟨T.2, false, 0, T.1⟩ := hR.symm
    have hc : ∀ w', SepO W oo w' (cparts k S ++ f3L hb k l z ⟨4, xa, xb, xc, xv⟩ an0 an0) → Calls Tryz.prog 81 #[pt k.c, .int .i64 xa, .int .i64 xb] w' fun e w'' => e = .returned (.tuple #[.int .u64 T.1, .int .i64 T.2]) ∧ SepO W oo w'' (cparts k S ++ f3L hb k l z ⟨4, xa, xb, xc, xv⟩ an0 an0) := fun w' h' => by rw [← hT]; exact Read_in xa xb ⟨hx2, hx2'⟩ h'
    have HC := Lib.hid hc
    clear h hR hz hT hc
    go_enter Tryz.func43, Tryz.ntmps43
    go_wp2_with fail
    go_region_held3 (fun w' => w'.cell? ⟨hb, 0, none⟩ = some (pt k.c) ∧ w'.cell? ⟨z, 0, none⟩ = some (i6 4) ∧ w'.cell? ⟨z, 1, none⟩ = some (i6 xa) ∧ w'.cell? ⟨z, 2, none⟩ = some (i6 xb) ∧ w'.cell? ⟨z, 3, none⟩ = some (i6 xc) ∧ w'.cell? ⟨z, 4, none⟩ = some (.int .u64 xv)) (first | exact q0 | exact f0 | exact p0 | exact p1 | go_keep) ((go_at_call 81; (with_reducible refine (HC.out _ ?hx).mono ?_); (case hx => first | exact HZ.out | exact HZ.out.drew | exact HZ.out.drewN _); rintro e w5 ⟨rfl, h5⟩; obtain ⟨f0, ⟨y0, y1, y2, y3, yf, yb, yz, yl⟩, u0, u1, u2, u3, uf, ul⟩ := f3_at h5; have g0 := last_put h5 3 (.int .u64 T.1); have p0 := (fr_at (c_drop g0)).1; have g1 := last_put g0 0 (i6 T.2); have p1 := (fr_at (c_drop g1)).1))
    have H5 := Lib.hid h5
    clear g0 p0 g1 p1 h5 f0 q0 HZ HC
    go_wp2_with fail
    obtain ⟨w9, hw9, h9, e0, e1, e2, e3⟩ := an_put (a0 := an0) ⟨T.2, false, 0, T.1⟩ (c_drop (last_put (last_put H5.out 3 (.int .u64 T.1)) 0 (i6 T.2)))
    rw [← hw9]
    refine bodyPost_ret (v := An.val ⟨T.2, false, 0, T.1⟩) (by simp [results, Tryz.results43, go_sem, e0, e1, e2, e3]) rfl ⟨rfl, c_drop (c_drop h9)⟩
  · by_cases k8 : kd = 8
    · subst k8
      rw [if_neg (by omega), if_pos rfl] at hR
      obtain ⟨T, hT⟩ : ∃ T, S.sameH xa xb = T := ⟨_, rfl⟩
      rw [hT] at hR
      obtain rfl : R = ⟨T.2, T.1, 0, 0⟩ := hR.symm
      have hc : ∀ w', SepO W oo w' (cparts k S ++ f3L hb k l z ⟨8, xa, xb, xc, xv⟩ an0 an0) → Calls Tryz.prog 82 #[pt k.c, .int .i64 xa, .int .i64 xb] w' fun e w'' => e = .returned (.tuple #[.bool T.1, .int .i64 T.2]) ∧ SepO W oo w'' (cparts k S ++ f3L hb k l z ⟨8, xa, xb, xc, xv⟩ an0 an0) := fun w' h' => by rw [← hT]; exact Same_in xa xb h'
      have HC := Lib.hid hc
      clear h hR hz hT hc
      go_enter Tryz.func43, Tryz.ntmps43
      go_wp2_with fail
      go_region_held3 (fun w' => w'.cell? ⟨hb, 0, none⟩ = some (pt k.c) ∧ w'.cell? ⟨z, 0, none⟩ = some (i6 8) ∧ w'.cell? ⟨z, 1, none⟩ = some (i6 xa) ∧ w'.cell? ⟨z, 2, none⟩ = some (i6 xb) ∧ w'.cell? ⟨z, 3, none⟩ = some (i6 xc) ∧ w'.cell? ⟨z, 4, none⟩ = some (.int .u64 xv)) (first | exact q0 | exact f0 | exact p0 | exact p1 | go_keep) ((go_at_call 82; (with_reducible refine (HC.out _ ?hx).mono ?_); (case hx => first | exact HZ.out | exact HZ.out.drew | exact HZ.out.drewN _); rintro e w5 ⟨rfl, h5⟩; obtain ⟨f0, ⟨y0, y1, y2, y3, yf, yb, yz, yl⟩, u0, u1, u2, u3, uf, ul⟩ := f3_at h5; have g0 := last_put h5 1 (.bool T.1); have p0 := (fr_at (c_drop g0)).1; have g1 := last_put g0 0 (i6 T.2); have p1 := (fr_at (c_drop g1)).1))
      have H5 := Lib.hid h5
      clear g0 p0 g1 p1 h5 f0 q0 HZ HC
      go_wp2_with fail
      obtain ⟨w9, hw9, h9, e0, e1, e2, e3⟩ := an_put (a0 := an0) ⟨T.2, T.1, 0, 0⟩ (c_drop (last_put (last_put H5.out 1 (.bool T.1)) 0 (i6 T.2)))
      rw [← hw9]
      refine bodyPost_ret (v := An.val ⟨T.2, T.1, 0, 0⟩) (by simp [results, Tryz.results43, go_sem, e0, e1, e2, e3]) rfl ⟨rfl, c_drop (c_drop h9)⟩
    · by_cases k9 : kd = 9
      · subst k9
        rw [if_neg (by omega), if_neg (by omega), if_pos rfl] at hR
        obtain ⟨T, hT⟩ : ∃ T, S.nilH xa = T := ⟨_, rfl⟩
        rw [hT] at hR
        obtain rfl : R = ⟨T.2, T.1, 0, 0⟩ := hR.symm
        have hc : ∀ w', SepO W oo w' (cparts k S ++ f3L hb k l z ⟨9, xa, xb, xc, xv⟩ an0 an0) → Calls Tryz.prog 83 #[pt k.c, .int .i64 xa] w' fun e w'' => e = .returned (.tuple #[.bool T.1, .int .i64 T.2]) ∧ SepO W oo w'' (cparts k S ++ f3L hb k l z ⟨9, xa, xb, xc, xv⟩ an0 an0) := fun w' h' => by rw [← hT]; exact Nil_in xa h'
        have HC := Lib.hid hc
        clear h hR hz hT hc
        go_enter Tryz.func43, Tryz.ntmps43
        go_wp2_with fail
        go_region_held3 (fun w' => w'.cell? ⟨hb, 0, none⟩ = some (pt k.c) ∧ w'.cell? ⟨z, 0, none⟩ = some (i6 9) ∧ w'.cell? ⟨z, 1, none⟩ = some (i6 xa) ∧ w'.cell? ⟨z, 2, none⟩ = some (i6 xb) ∧ w'.cell? ⟨z, 3, none⟩ = some (i6 xc) ∧ w'.cell? ⟨z, 4, none⟩ = some (.int .u64 xv)) (first | exact q0 | exact f0 | exact p0 | exact p1 | go_keep) ((go_at_call 83; (with_reducible refine (HC.out _ ?hx).mono ?_); (case hx => first | exact HZ.out | exact HZ.out.drew | exact HZ.out.drewN _); rintro e w5 ⟨rfl, h5⟩; obtain ⟨f0, ⟨y0, y1, y2, y3, yf, yb, yz, yl⟩, u0, u1, u2, u3, uf, ul⟩ := f3_at h5; have g0 := last_put h5 1 (.bool T.1); have p0 := (fr_at (c_drop g0)).1; have g1 := last_put g0 0 (i6 T.2); have p1 := (fr_at (c_drop g1)).1))
        have H5 := Lib.hid h5
        clear g0 p0 g1 p1 h5 f0 q0 HZ HC
        go_wp2_with fail
        obtain ⟨w9, hw9, h9, e0, e1, e2, e3⟩ := an_put (a0 := an0) ⟨T.2, T.1, 0, 0⟩ (c_drop (last_put (last_put H5.out 1 (.bool T.1)) 0 (i6 T.2)))
        rw [← hw9]
        refine bodyPost_ret (v := An.val ⟨T.2, T.1, 0, 0⟩) (by simp [results, Tryz.results43, go_sem, e0, e1, e2, e3]) rfl ⟨rfl, c_drop (c_drop h9)⟩
      · by_cases k10 : kd = 10
        · subst k10
          rw [if_neg (by omega), if_neg (by omega), if_neg (by omega), if_pos rfl] at hR
          obtain ⟨T, hT⟩ : ∃ T, S.shapeH xa = T := ⟨_, rfl⟩
          rw [hT] at hR
          obtain rfl : R = ⟨T.2.2, false, T.1, IntKind.u64.wrap T.2.1⟩ := hR.symm
          have hc : ∀ w', SepO W oo w' (cparts k S ++ f3L hb k l z ⟨10, xa, xb, xc, xv⟩ an0 an0) → Calls Tryz.prog 84 #[pt k.c, .int .i64 xa] w' fun e w'' => e = .returned (.tuple #[.int .i64 T.1, .int .i64 T.2.1, .int .i64 T.2.2]) ∧ SepO W oo w'' (cparts k S ++ f3L hb k l z ⟨10, xa, xb, xc, xv⟩ an0 an0) := fun w' h' => by rw [← hT]; exact Shape_in xa h'
          have HC := Lib.hid hc
          clear h hR hz hT hc
          go_enter Tryz.func43, Tryz.ntmps43
          go_wp2_with fail
          go_region_held3 (fun w' => w'.cell? ⟨hb, 0, none⟩ = some (pt k.c) ∧ w'.cell? ⟨z, 0, none⟩ = some (i6 10) ∧ w'.cell? ⟨z, 1, none⟩ = some (i6 xa) ∧ w'.cell? ⟨z, 2, none⟩ = some (i6 xb) ∧ w'.cell? ⟨z, 3, none⟩ = some (i6 xc) ∧ w'.cell? ⟨z, 4, none⟩ = some (.int .u64 xv)) (first | exact q0 | exact f0 | exact p0 | exact p1 | go_keep) ((go_at_call 84; (with_reducible refine (HC.out _ ?hx).mono ?_); (case hx => first | exact HZ.out | exact HZ.out.drew | exact HZ.out.drewN _); rintro e w5 ⟨rfl, h5⟩; obtain ⟨f0, ⟨y0, y1, y2, y3, yf, yb, yz, yl⟩, u0, u1, u2, u3, uf, ul⟩ := f3_at h5))
          have H5 := Lib.hid h5
          clear  h5 f0 q0 HZ HC
          go_wp2_with fail
          obtain ⟨w9, hw9, h9, e0, e1, e2, e3⟩ := an_put (a0 := an0) ⟨T.2.2, false, T.1, IntKind.u64.wrap T.2.1⟩ (c_drop (last_put (last_put (last_put H5.out 2 (i6 T.1)) 3 (.int .u64 (IntKind.u64.wrap T.2.1))) 0 (i6 T.2.2)))
          rw [← hw9]
          refine bodyPost_ret (v := An.val ⟨T.2.2, false, T.1, IntKind.u64.wrap T.2.1⟩) (by simp [results, Tryz.results43, go_sem, e0, e1, e2, e3]) rfl ⟨rfl, c_drop (c_drop h9)⟩
        · rw [if_neg k4, if_neg k8, if_neg k9, if_neg k10] at hR
          obtain rfl : R = erA 1 := hR.symm
          have b4 : (kd == 4) = false := by simpa using k4
          have b8 : (kd == 8) = false := by simpa using k8
          have b9 : (kd == 9) = false := by simpa using k9
          have b10 : (kd == 10) = false := by simpa using k10
          obtain ⟨z9, hz9, hb9, h9⟩ := f3_in ⟨kd, xa, xb, xc, xv⟩ ⟨1, false, 0, 0⟩ ⟨1, false, 0, 0⟩ h
          obtain rfl : z9 = z := hz9.symm.trans hzz
          obtain ⟨-, ⟨e0, e1, e2, e3, -⟩, -⟩ := f3_at h9
          have H9 := Lib.hid (c_drop (c_drop (c_drop h9)))
          have E := Lib.hid (And.intro e0 (And.intro e1 (And.intro e2 e3)))
          clear h hz h9 hR q0 e0 e1 e2 e3
          go_enter Tryz.func43, Tryz.ntmps43
          go_wp2_with fail
          obtain ⟨e0, e1, e2, e3⟩ := E.out
          (try simp only [] at e0 e1 e2 e3)
          refine bodyPost_ret (v := An.val (erA 1)) (by simp [results, Tryz.results43, go_sem, e0, e1, e2, e3, erA]) rfl ⟨rfl, H9.out⟩
end
end Go.Proofs.YtihmkkjmnbehbaaGreat.Wh
