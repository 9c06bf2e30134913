/- Texts of the whole heap, joined: WiF. No condition beside those that each lemma names. -/
import Derived.Test.YtihmkkjmnbehbaaGreatMg39
/- Calls of the whole heap: the walks. Condition: the heap is as it should be. -/
set_option linter.unusedVariables false
set_option linter.unusedSimpArgs false
namespace Go.Proofs.YtihmkkjmnbehbaaGreat.Wh
open Go.RowKit Go.Proofs.YtihmkkjmnbehbaaGreat.W Go.Proofs.YtihmkkjmnbehbaaGreat.Sm
/-- An answer, as a value. -/
abbrev An.val (a : An) : Value := .agg #[i6 a.e, .bool a.yes, i6 a.n, .int .u64 a.v]
/-- An entry of a script, as a value. -/
abbrev stV (x : A5) : Value := .agg #[i6 x.kind, i6 x.a, i6 x.b, i6 x.c, .int .u64 x.v]
abbrev stP (z : Nat) (x : A5) : Pr := blkP z 36 #[i6 x.kind, i6 x.a, i6 x.b, i6 x.c, .int .u64 x.v]
abbrev anP (z : Nat) (a : An) : Pr := blkP z 33 #[i6 a.e, .bool a.yes, i6 a.n, .int .u64 a.v]
abbrev an0 : An := ⟨0, false, 0, 0⟩
section
variable {W w : World} {oo : Nat → Prop} {k : CK} {S : CS} {l L : List Pr} {F : FuncId} {args : Array Value} {hb : Nat} {c : CF}
theorem st_at {z : Nat} {x : A5} {i : Nat} (h : SepO W oo w L) (hi : L[i]? = some (stP z x)) : w.cell? ⟨z, 0, none⟩ = some (i6 x.kind) ∧ w.cell? ⟨z, 1, none⟩ = some (i6 x.a) ∧ w.cell? ⟨z, 2, none⟩ = some (i6 x.b) ∧ w.cell? ⟨z, 3, none⟩ = some (i6 x.c) ∧ w.cell? ⟨z, 4, none⟩ = some (.int .u64 x.v) ∧ z < w.heap.size := by
  have b := h.blk i hi
  exact ⟨b.cell 0, b.cell 1, b.cell 2, b.cell 3, b.cell 4, b.lt⟩
theorem an_at {z : Nat} {a : An} {i : Nat} (h : SepO W oo w L) (hi : L[i]? = some (anP z a)) : w.cell? ⟨z, 0, none⟩ = some (i6 a.e) ∧ w.cell? ⟨z, 1, none⟩ = some (.bool a.yes) ∧ w.cell? ⟨z, 2, none⟩ = some (i6 a.n) ∧ w.cell? ⟨z, 3, none⟩ = some (.int .u64 a.v) ∧ (∀ j, w.frozen? ⟨z, j, none⟩ = false) ∧ z < w.heap.size := by
  have b := h.blk i hi
  exact ⟨b.cell 0, b.cell 1, b.cell 2, b.cell 3, b.frozen, b.lt⟩
theorem put4 {i z : Nat} {t : TypeId} {a0 a1 a2 a3 : Value} (h : SepO W oo w L) (hi : L[i]? = some (blkP z t #[a0, a1, a2, a3])) (v0 v1 v2 v3 : Value) :
    SepO W oo ((((w.setCell ⟨z, 0, none⟩ v0).setCell ⟨z, 1, none⟩ v1).setCell ⟨z, 2, none⟩ v2).setCell ⟨z, 3, none⟩ v3) (L.set i (blkP z t #[v0, v1, v2, v3])) := by
  have hl := (List.getElem?_eq_some_iff.1 hi).1
  have st : ∀ {w : World} {cs : Array Value} (h : SepO W oo w (L.set i (blkP z t cs))) (j : Nat) (v : Value), SepO W oo (w.setCell ⟨z, j, none⟩ v) (L.set i (blkP z t (cs.setIfInBounds j v))) := fun h j v => by
    have := h.set_blk i (by rw [List.getElem?_set_self hl]) j v
    rwa [List.set_set] at this
  have h0 : SepO W oo w (L.set i (blkP z t #[a0, a1, a2, a3])) := by rw [list_same hi]; exact h
  have r := st (st (st (st h0 0 v0) 1 v1) 2 v2) 3 v3
  have e : (((((#[a0, a1, a2, a3] : Array Value).setIfInBounds 0 v0).setIfInBounds 1 v1).setIfInBounds 2 v2).setIfInBounds 3 v3) = #[v0, v1, v2, v3] := by simp
  rw [e] at r
  exact r
/-- The answer is stored: it is read as it was stored, and all else is as it was. -/
theorem an_put {z : Nat} {a0 : An} (a : An) (h : SepO W oo w (cparts k S ++ (l ++ [anP z a0]))) : ∃ w', w' = ((((w.setCell ⟨z, 0, none⟩ (i6 a.e)).setCell ⟨z, 1, none⟩ (.bool a.yes)).setCell ⟨z, 2, none⟩ (i6 a.n)).setCell ⟨z, 3, none⟩ (.int .u64 a.v)) ∧ SepO W oo w' (cparts k S ++ (l ++ [anP z a])) ∧ w'.cell? ⟨z, 0, none⟩ = some (i6 a.e) ∧ w'.cell? ⟨z, 1, none⟩ = some (.bool a.yes) ∧ w'.cell? ⟨z, 2, none⟩ = some (i6 a.n) ∧ w'.cell? ⟨z, 3, none⟩ = some (.int .u64 a.v) := by
  have h2 := put4 h c_last (i6 a.e) (.bool a.yes) (i6 a.n) (.int .u64 a.v)
  rw [c_last_set] at h2
  obtain ⟨e0, e1, e2, e3, _⟩ := an_at h2 c_last
  exact ⟨_, rfl, h2, e0, e1, e2, e3⟩
abbrev frL (hb : Nat) (k : CK) (l : List Pr) (z : Nat) (x : A5) (a : An) : List Pr := ((hbP hb k :: l) ++ [stP z x]) ++ [anP (z + 1) a]
theorem fr_at {z : Nat} {x : A5} {a : An} (h : SepO W oo w (cparts k S ++ frL hb k l z x a)) :
    (w.cell? ⟨hb, 0, none⟩ = some (pt k.c) ∧ w.cell? ⟨z, 0, none⟩ = some (i6 x.kind) ∧ w.cell? ⟨z, 1, none⟩ = some (i6 x.a) ∧ w.cell? ⟨z, 2, none⟩ = some (i6 x.b) ∧ w.cell? ⟨z, 3, none⟩ = some (i6 x.c) ∧ w.cell? ⟨z, 4, none⟩ = some (.int .u64 x.v)) ∧
    (w.cell? ⟨z + 1, 0, none⟩ = some (i6 a.e) ∧ w.cell? ⟨z + 1, 1, none⟩ = some (.bool a.yes) ∧ w.cell? ⟨z + 1, 2, none⟩ = some (i6 a.n) ∧ w.cell? ⟨z + 1, 3, none⟩ = some (.int .u64 a.v) ∧ (∀ j, w.frozen? ⟨z + 1, j, none⟩ = false) ∧ hb < w.heap.size ∧ z < w.heap.size ∧ z + 1 < w.heap.size) := by
  have h1 : SepO W oo w (cparts k S ++ ((hbP hb k :: l) ++ [stP z x, anP (z + 1) a])) := by
    have e : frL hb k l z x a = (hbP hb k :: l) ++ [stP z x, anP (z + 1) a] := List.append_assoc _ _ _
    rw [← e]; exact h
  have b := h.blk (g := hb) (t := 82) (cs := #[pt k.c]) 8 rfl
  obtain ⟨s0, s1, s2, s3, s4, sl⟩ := st_at h1 c_at1
  obtain ⟨a0, a1, a2, a3, af, al⟩ := an_at h c_last
  exact ⟨⟨b.cell 0, s0, s1, s2, s3, s4⟩, a0, a1, a2, a3, af, b.lt, sl, al⟩
theorem fr_put {z : Nat} {x : A5} {a : An} (b : An) (h : SepO W oo w (cparts k S ++ frL hb k l z x a)) : SepO W oo ((((w.setCell ⟨z + 1, 0, none⟩ (i6 b.e)).setCell ⟨z + 1, 1, none⟩ (.bool b.yes)).setCell ⟨z + 1, 2, none⟩ (i6 b.n)).setCell ⟨z + 1, 3, none⟩ (.int .u64 b.v)) (cparts k S ++ frL hb k l z x b) := by
  have h2 := put4 h c_last (i6 b.e) (.bool b.yes) (i6 b.n) (.int .u64 b.v)
  rw [c_last_set] at h2
  exact h2
theorem fr_in (x : A5) (h : SepO W oo w (cparts k S ++ (hbP hb k :: l))) : ∃ z, w.heap.size = z ∧ hb < z ∧ SepO W oo ((w.alloc (.cells #[i6 x.kind, i6 x.a, i6 x.b, i6 x.c, .int .u64 x.v] 36)).alloc (.cells #[i6 0, .bool false, i6 0, .int .u64 0] 33)) (cparts k S ++ frL hb k l z x an0) := by
  have hz := c_add (c_add h 36 #[i6 x.kind, i6 x.a, i6 x.b, i6 x.c, .int .u64 x.v]) 33 #[i6 0, .bool false, i6 0, .int .u64 0]
  obtain ⟨_, hbl⟩ := h_at h
  obtain ⟨z, hzz⟩ : ∃ z, w.heap.size = z := ⟨_, rfl⟩
  have hz1 : (w.alloc (.cells #[i6 x.kind, i6 x.a, i6 x.b, i6 x.c, .int .u64 x.v] 36)).heap.size = z + 1 := by rw [← hzz]; simp
  rw [hz1, hzz] at hz
  exact ⟨z, hzz, by omega, hz⟩
theorem er_in (x : A5) (n : Int) (h : SepO W oo w (cparts k S ++ (hbP hb k :: l))) : ∃ z, w.heap.size = z ∧ ∃ w', w' = (w.alloc (.cells #[i6 x.kind, i6 x.a, i6 x.b, i6 x.c, .int .u64 x.v] 36)).alloc (.cells #[i6 n, .bool false, i6 0, .int .u64 0] 33) ∧ w'.cell? ⟨z + 1, 0, none⟩ = some (i6 n) ∧ w'.cell? ⟨z + 1, 1, none⟩ = some (.bool false) ∧ w'.cell? ⟨z + 1, 2, none⟩ = some (i6 0) ∧ w'.cell? ⟨z + 1, 3, none⟩ = some (.int .u64 0) ∧ SepO W oo w' (cparts k S ++ (hbP hb k :: l)) := by
  have hz := c_add (c_add h 36 #[i6 x.kind, i6 x.a, i6 x.b, i6 x.c, .int .u64 x.v]) 33 #[i6 n, .bool false, i6 0, .int .u64 0]
  obtain ⟨z, hzz⟩ : ∃ z, w.heap.size = z := ⟨_, rfl⟩
  have hz1 : (w.alloc (.cells #[i6 x.kind, i6 x.a, i6 x.b, i6 x.c, .int .u64 x.v] 36)).heap.size = z + 1 := by rw [← hzz]; simp
  rw [hz1] at hz
  obtain ⟨a0, a1, a2, a3, _⟩ := an_at (a := ⟨n, false, 0, 0⟩) hz c_last
  exact ⟨z, hzz, _, rfl, a0, a1, a2, a3, c_drop (c_drop hz)⟩
set_option maxRecDepth 20000 in
set_option maxHeartbeats 8000000 in
theorem force_in (x : A5) (hx : x.wf) (hO : Ok S) (h : SepO W oo w (cparts k S ++ (hbP hb k :: l))) : Calls Tryz.prog 42 #[pt hb, stV x] w fun e w' => e = .returned (S.doForce x).1.val ∧ ∃ A m, SepO W oo w' (cparts (k.rw A m) (S.doForce x).2 ++ (hbP hb k :: l)) := by
  obtain ⟨c0, hbl⟩ := h_at h
  obtain ⟨R, hR⟩ : ∃ R, S.doForce x = R := ⟨_, rfl⟩
  rw [hR]
  obtain ⟨z, hzz, hbz, hz⟩ := fr_in x h
  have nb1 : ¬ hb = z + 1 := by omega
  have nb2 : ¬ hb = z + 2 := by omega
  have nb0 : ¬ hb = z := by omega
  have nc1 : ¬ z + 1 = hb := by omega
  have nc2 : ¬ z + 2 = hb := by omega
  have nc0 : ¬ z = hb := by omega
  obtain ⟨kd, xa, xb, xc, xv⟩ := x
  obtain ⟨hx0, ⟨hx1, hx1'⟩, ⟨hx2, hx2'⟩, ⟨hx3, hx3'⟩, ⟨hx4, hx4'⟩⟩ := hx
  simp only [] at hx0 hx1 hx1' hx2 hx2' hx3 hx3' hx4 hx4' hz
  unfold CS.doForce at hR
  have HZ := Lib.hid hz
  have H := Lib.hid h
  by_cases h0 : xa = 0
  · subst h0
    obtain ⟨T, hT⟩ : ∃ T, S.minStart = T := ⟨_, rfl⟩
    rw [hT] at hR
    obtain rfl : R = (⟨0, T.1, 0, 0⟩, T.2) := by rw [← hR]; rfl
    have HT := Lib.hid hT
    have HO := Lib.hid hO
    clear h hO hR hT hz
    go_enter Tryz.func42, Tryz.ntmps42
    go_wp2_with fail
    refine (Start_in HO.out HZ.out).mono ?_
    rintro e w3 ⟨rfl, A, m, h3⟩
    rw [HT.out] at h3 ⊢
    obtain ⟨f0, y0, y1, y2, y3, yf, yb, yz, yl⟩ := fr_at (k := k.rw A m) h3
    have H3 := Lib.hid h3
    clear h3 HZ HO f0
    go_wp2_with fail
    obtain ⟨w9, hw9, h9, e0, e1, e2, e3⟩ := an_put (a0 := an0) ⟨0, T.1, 0, 0⟩ H3.out
    rw [← hw9]
    refine bodyPost_ret (v := An.val ⟨0, T.1, 0, 0⟩) (by simp [results, Tryz.results42, go_sem, e0, e1, e2, e3]) rfl ⟨rfl, A, m, c_drop (c_drop h9)⟩
  · by_cases h1 : xa = 1
    · subst h1
      obtain ⟨T, hT⟩ : ∃ T, S.majStart = T := ⟨_, rfl⟩
      rw [hT] at hR
      obtain rfl : R = (⟨0, T.1, 0, 0⟩, T.2) := by rw [← hR]; rfl
      have HT := Lib.hid hT
      have HO := Lib.hid hO
      clear h hO hR hT hz h0
      go_enter Tryz.func42, Tryz.ntmps42
      go_wp2_with fail
      refine (majStart_in HO.out HZ.out).mono ?_
      rintro e w3 ⟨rfl, h3⟩
      rw [HT.out] at h3 ⊢
      obtain ⟨f0, y0, y1, y2, y3, yf, yb, yz, yl⟩ := fr_at h3
      have H3 := Lib.hid h3
      clear h3 HZ HO f0
      go_wp2_with fail
      obtain ⟨w9, hw9, h9, e0, e1, e2, e3⟩ := an_put (a0 := an0) ⟨0, T.1, 0, 0⟩ H3.out
      rw [← hw9]
      refine bodyPost_ret (v := An.val ⟨0, T.1, 0, 0⟩) (by simp [results, Tryz.results42, go_sem, e0, e1, e2, e3]) rfl ⟨rfl, k.A, k.n, c_drop (c_drop h9)⟩
    · obtain rfl : R = (erA 1, S) := by rw [← hR]; (try simp only []); rw [if_neg h0, if_neg h1]
      have b0 : (xa == 0) = false := by simpa using h0
      have b1 : (xa == 1) = false := by simpa using h1
      obtain ⟨f0, y0, y1, y2, y3, yf, yb, yz, yl⟩ := fr_at hz
      clear h hO hR hz f0
      go_enter Tryz.func42, Tryz.ntmps42
      go_wp2_with fail
      obtain ⟨z9, hz9, w9, hw9, e0, e1, e2, e3, h9⟩ := er_in ⟨kd, xa, xb, xc, xv⟩ 1 H.out
      obtain rfl : z9 = z := hz9.symm.trans hzz
      rw [← hw9]
      refine bodyPost_ret (v := An.val (erA 1)) (by simp [results, Tryz.results42, go_sem, e0, e1, e2, e3, erA]) rfl ⟨rfl, k.A, k.n, h9⟩
set_option maxRecDepth 20000 in
set_option maxHeartbeats 8000000 in
theorem idle_in (x : A5) (hx : x.wf) (hO : Ok S) (h : SepO W oo w (cparts k S ++ (hbP hb k :: l))) : Calls Tryz.prog 41 #[pt hb, stV x] w fun e w' => e = .returned (S.doIdle x).1.val ∧ ∃ A m, SepO W oo w' (cparts (k.rw A m) (S.doIdle x).2 ++ (hbP hb k :: l)) := by
  obtain ⟨c0, hbl⟩ := h_at h
  obtain ⟨R, hR⟩ : ∃ R, S.doIdle x = R := ⟨_, rfl⟩
  rw [hR]
  obtain ⟨z, hzz, hbz, hz⟩ := fr_in x h
  have nb1 : ¬ hb = z + 1 := by omega
  have nb2 : ¬ hb = z + 2 := by omega
  have nb0 : ¬ hb = z := by omega
  have nc1 : ¬ z + 1 = hb := by omega
  have nc2 : ¬ z + 2 = hb := by omega
  have nc0 : ¬ z = hb := by omega
  obtain ⟨kd, xa, xb, xc, xv⟩ := x
  obtain ⟨hx0, ⟨hx1, hx1'⟩, ⟨hx2, hx2'⟩, ⟨hx3, hx3'⟩, ⟨hx4, hx4'⟩⟩ := hx
  simp only [] at hx0 hx1 hx1' hx2 hx2' hx3 hx3' hx4 hx4' hz
  unfold CS.doIdle at hR
  have HZ := Lib.hid hz
  have H := Lib.hid h
  obtain ⟨wk, hwk⟩ : ∃ wk, mm xb 0 1048576 = wk := ⟨_, rfl⟩
  have hwb : 0 ≤ wk ∧ wk ≤ 1048576 := by rw [← hwk]; unfold mm; (repeat' split) <;> omega
  simp only [hwk] at hR
  have hwk2 : (if 0 < (if 1048576 < xb then 1048576 else xb) then (if 1048576 < xb then 1048576 else xb) else 0) = wk := hwk
  have HWK := Lib.hid hwk2
  have HWB : Hid (0 ≤ wk ∧ wk ≤ 70000000) := Lib.hid ⟨hwb.1, by omega⟩
  clear hwk hwk2
  by_cases h0 : xa = 0
  · subst h0
    obtain ⟨T, hT⟩ : ∃ T, S.minRun wk = T := ⟨_, rfl⟩
    rw [hT] at hR
    obtain rfl : R = (⟨0, false, T.1, 0⟩, T.2) := by rw [← hR]; rfl
    have HT := Lib.hid hT
    have HO := Lib.hid hO
    clear h hO hR hT hz hwb
    go_enter Tryz.func41, Tryz.ntmps41
    go_upto_region 1 with fail
    go_cut [5] (fun v wx => v = .int .i64 wk ∧ wx = (w.alloc (.cells #[i6 kd, i6 0, i6 xb, i6 xc, .int .u64 xv] 36)).alloc (.cells #[i6 0, .bool false, i6 0, .int .u64 0] 33))
    case first =>
      have hw := HWK.out
      clear HZ HWB
      go_wp2_with fail
      all_goals
        go_meet
        refine ⟨?_, rfl⟩
        first
          | (rw [← hw]; done)
          | (rw [← hw]; congr 1; (repeat' split) <;> omega)
    case rest =>
    obtain ⟨rfl, rfl⟩ := hcut
    go_wp2_with fail
    refine (Run_in wk HWB.out HO.out HZ.out).mono ?_
    rintro e w3 ⟨rfl, A, m, h3⟩
    rw [HT.out] at h3 ⊢
    obtain ⟨f0, y0, y1, y2, y3, yf, yb, yz, yl⟩ := fr_at (k := k.rw A m) h3
    have H3 := Lib.hid h3
    clear h3 HZ HO f0
    go_wp2_with fail
    obtain ⟨w9, hw9, h9, e0, e1, e2, e3⟩ := an_put (a0 := an0) ⟨0, false, T.1, 0⟩ H3.out
    rw [← hw9]
    refine bodyPost_ret (v := An.val ⟨0, false, T.1, 0⟩) (by simp [results, Tryz.results41, go_sem, e0, e1, e2, e3]) rfl ⟨rfl, A, m, c_drop (c_drop h9)⟩
  · by_cases h1 : xa = 1
    · subst h1
      obtain ⟨T, hT⟩ : ∃ T, S.majRun wk = T := ⟨_, rfl⟩
      rw [hT] at hR
      obtain rfl : R = (⟨0, false, T.1, 0⟩, T.2) := by rw [← hR]; rfl
      have HT := Lib.hid hT
      have HO := Lib.hid hO
      clear h hO hR hT hz hwb h0
      go_enter Tryz.func41, Tryz.ntmps41
      go_upto_region 1 with fail
      go_cut [5] (fun v wx => v = .int .i64 wk ∧ wx = (w.alloc (.cells #[i6 kd, i6 1, i6 xb, i6 xc, .int .u64 xv] 36)).alloc (.cells #[i6 0, .bool false, i6 0, .int .u64 0] 33))
      case first =>
        have hw := HWK.out
        clear HZ HWB
        go_wp2_with fail
        all_goals
          go_meet
          refine ⟨?_, rfl⟩
          first
            | (rw [← hw]; done)
            | (rw [← hw]; congr 1; (repeat' split) <;> omega)
      case rest =>
      obtain ⟨rfl, rfl⟩ := hcut
      go_wp2_with fail
      refine (majRun_in wk HWB.out HO.out HZ.out).mono ?_
      rintro e w3 ⟨rfl, h3⟩
      rw [HT.out] at h3 ⊢
      obtain ⟨f0, y0, y1, y2, y3, yf, yb, yz, yl⟩ := fr_at h3
      have H3 := Lib.hid h3
      clear h3 HZ HO f0
      go_wp2_with fail
      obtain ⟨w9, hw9, h9, e0, e1, e2, e3⟩ := an_put (a0 := an0) ⟨0, false, T.1, 0⟩ H3.out
      rw [← hw9]
      refine bodyPost_ret (v := An.val ⟨0, false, T.1, 0⟩) (by simp [results, Tryz.results41, go_sem, e0, e1, e2, e3]) rfl ⟨rfl, k.A, k.n, c_drop (c_drop h9)⟩
    · obtain rfl : R = (erA 1, S) := by rw [← hR]; (try simp only []); rw [if_neg h0, if_neg h1]
      have b0 : (xa == 0) = false := by simpa using h0
      have b1 : (xa == 1) = false := by simpa using h1
      obtain ⟨f0, y0, y1, y2, y3, yf, yb, yz, yl⟩ := fr_at hz
      clear h hO hR hz f0 hwb
      go_enter Tryz.func41, Tryz.ntmps41
      go_upto_region 1 with fail
      go_cut [5] (fun v wx => v = .int .i64 wk ∧ wx = (w.alloc (.cells #[i6 kd, i6 xa, i6 xb, i6 xc, .int .u64 xv] 36)).alloc (.cells #[i6 0, .bool false, i6 0, .int .u64 0] 33))
      case first =>
        have hw := HWK.out
        clear HZ HWB
        go_wp2_with fail
        all_goals
          go_meet
          refine ⟨?_, rfl⟩
          first
            | (rw [← hw]; done)
            | (rw [← hw]; congr 1; (repeat' split) <;> omega)
      case rest =>
      obtain ⟨rfl, rfl⟩ := hcut
      go_wp2_with fail
      obtain ⟨z9, hz9, w9, hw9, e0, e1, e2, e3, h9⟩ := er_in ⟨kd, xa, xb, xc, xv⟩ 1 H.out
      obtain rfl : z9 = z := hz9.symm.trans hzz
      rw [← hw9]
      refine bodyPost_ret (v := An.val (erA 1)) (by simp [results, Tryz.results41, go_sem, e0, e1, e2, e3, erA]) rfl ⟨rfl, k.A, k.n, h9⟩
set_option maxRecDepth 20000 in
set_option maxHeartbeats 8000000 in
theorem make_in (x : A5) (hx : x.wf) (hO : Ok S) (h : SepO W oo w (cparts k S ++ (hbP hb k :: l))) : Calls Tryz.prog 35 #[pt hb, stV x] w fun e w' => e = .returned (S.doMake x).1.val ∧ ∃ A m, SepO W oo w' (cparts (k.rw A m) (S.doMake x).2 ++ (hbP hb k :: l)) := by
  obtain ⟨c0, hbl⟩ := h_at h
  obtain ⟨R, hR⟩ : ∃ R, S.doMake x = R := ⟨_, rfl⟩
  rw [hR]
  obtain ⟨z, hzz, hbz, hz⟩ := fr_in x h
  have nb1 : ¬ hb = z + 1 := by omega
  have nb2 : ¬ hb = z + 2 := by omega
  have nb0 : ¬ hb = z := by omega
  have nc1 : ¬ z + 1 = hb := by omega
  have nc2 : ¬ z + 2 = hb := by omega
  have nc0 : ¬ z = hb := by omega
  obtain ⟨kd, xa, xb, xc, xv⟩ := x
  obtain ⟨hx0, ⟨hx1, hx1'⟩, ⟨hx2, hx2'⟩, ⟨hx3, hx3'⟩, ⟨hx4, hx4'⟩⟩ := hx
  simp only [] at hx0 hx1 hx1' hx2 hx2' hx3 hx3' hx4 hx4' hz
  unfold CS.doMake at hR
  have HZ := Lib.hid hz
  have H := Lib.hid h
  obtain ⟨tt, htt⟩ : ∃ tt, decide (0 ≤ xb ∧ 0 ≤ xc ∧ xb ≤ S.c.l ∧ xc ≤ S.c.l - xb) = tt := ⟨_, rfl⟩
  obtain ⟨S1, hS1⟩ : ∃ S1, (if 0 ≤ xb ∧ 0 ≤ xc ∧ xb ≤ S.c.l ∧ xc ≤ S.c.l - xb then S.tax (xb + xc + 2) else S) = S1 := ⟨_, rfl⟩
  simp only [hS1] at hR
  have hcl : 0 ≤ S.c.l ∧ S.c.l ≤ 64 := by obtain ⟨m, R, G, hg⟩ := hO; exact ⟨hg.inv.geo.cf.l0, hg.inv.geo.cf.l1⟩
  have hcl1 : 0 ≤ S1.c.l ∧ S1.c.l ≤ 64 := by
    have hO1 : Ok S1 := by
      rw [← hS1]; split
      · obtain ⟨m, R, G, hg⟩ := hO
        obtain ⟨m', R', h1, _⟩ := hg.tax (xb + xc + 2)
        exact ⟨m', R', G, h1⟩
      · exact hO
    obtain ⟨m, R, G, hg⟩ := hO1; exact ⟨hg.inv.geo.cf.l0, hg.inv.geo.cf.l1⟩
  obtain ⟨⟨T1, T2⟩, hT⟩ : ∃ T, S1.make xa xb xc = T := ⟨_, rfl⟩
  have hc : ∀ A m w', SepO W oo w' (cparts (k.rw A m) S1 ++ frL hb (k.rw A m) l z ⟨kd, xa, xb, xc, xv⟩ an0) → Calls Tryz.prog 71 #[pt k.c, .int .i64 xa, .int .i64 xb, .int .i64 xc] w' fun e w'' => e = .returned (.int .i64 T1) ∧ ∃ A' m', SepO W oo w'' (cparts (k.rw A' m') T2 ++ frL hb k l z ⟨kd, xa, xb, xc, xv⟩ an0) := fun A m w' h' => by
    have := Make_in (k := k.rw A m) xa xb xc ⟨hx2, hx2'⟩ ⟨hx3, hx3'⟩ hcl1 h'
    rw [hT] at this
    exact this.mono fun e w'' ⟨h1, h2⟩ => ⟨h1, A, m, h2⟩
  obtain rfl : R = (erA T1, T2) := by rw [← hR, hT]
  have htx : I64 (xb + xc + 2) ∨ tt = false := by
    cases tt with
    | false => right; rfl
    | true => left; have := of_decide_eq_true htt; exact ⟨by omega, by omega⟩
  have hw1 : tt = true → wrap64 (wrap64 (xb + xc) + 2) = xb + xc + 2 := fun h => by
    subst h
    have := of_decide_eq_true htt
    have e1 : wrap64 (xb + xc) = xb + xc := by unfold wrap64; omega
    rw [e1]
    unfold wrap64; omega
  obtain ⟨ll, hll⟩ : ∃ ll, S.c.l = ll := ⟨_, rfl⟩
  have q8 : ∀ w', SepO W oo w' (cparts k S ++ frL hb k l z ⟨kd, xa, xb, xc, xv⟩ an0) → w'.cell? ⟨k.c, 8, none⟩ = some (i6 ll) := fun w' h' => by
    rw [← hll]; exact (c_conf h').2.2.2.2.2.2.2.2.1
  rw [hll] at htt hcl hS1
  have HTT := Lib.hid htt
  have HS1 := Lib.hid hS1
  have HC := Lib.hid hc
  have HO := Lib.hid hO
  have HTX := Lib.hid htx
  have HW1 := Lib.hid hw1
  have Q8 := Lib.hid q8
  obtain ⟨hl0, hl1⟩ := hcl
  have d0 := Q8.out _ hz
  have dl : k.c < w.heap.size := (c_at h).2.2.1
  clear h hO hR hz hT hc htt hS1 hll q8 htx hcl1 hw1
  go_enter Tryz.func35, Tryz.ntmps35
  go_upto_region 1 with fail
  go_cut [41] (fun v wx => v = .bool tt ∧ SepO W oo wx (cparts k S ++ frL hb k l z ⟨kd, xa, xb, xc, xv⟩ an0))
  case first =>
    as_aux_lemma =>
    clear HS1 HC HO HTX HW1
    obtain ⟨q0, _⟩ := fr_at HZ.out
    obtain ⟨q0, z0, z1, z2, z3, z4⟩ := q0
    have d8 := Q8.out _ HZ.out
    by_cases t1 : 0 ≤ xb
    · have t1' : decide (0 ≤ xb) = true := by simpa using t1
      by_cases t2 : 0 ≤ xc
      · have t2' : decide (0 ≤ xc) = true := by simpa using t2
        by_cases t3 : xb ≤ ll
        · have t3' : decide (xb ≤ ll) = true := by simpa using t3
          have e1 : IntKind.i64.wrap (ll - xb) = ll - xb := IntWalk.i64_in _ (by omega)
          by_cases t4 : xc ≤ ll - xb
          · have t4' : decide (xc ≤ ll - xb) = true := by simpa using t4
            obtain rfl : tt = true := by rw [← HTT.out]; simp [t1, t2, t3, t4]
            clear HTT
            go_quiet (fail)
            go_wp2_with fail
            go_meet
            exact ⟨rfl, by first | exact HZ.out | exact HZ.out.drew | exact HZ.out.drewN _⟩
          · have t4' : decide (xc ≤ ll - xb) = false := by simpa using t4
            obtain rfl : tt = false := by rw [← HTT.out]; simp [t1, t2, t3, t4]
            clear HTT
            go_quiet (fail)
            go_wp2_with fail
            go_meet
            exact ⟨rfl, by first | exact HZ.out | exact HZ.out.drew | exact HZ.out.drewN _⟩
        · have t3' : decide (xb ≤ ll) = false := by simpa using t3
          obtain rfl : tt = false := by rw [← HTT.out]; simp [t1, t2, t3]
          clear HTT
          go_quiet (fail)
          go_wp2_with fail
          go_meet
          exact ⟨rfl, by first | exact HZ.out | exact HZ.out.drew | exact HZ.out.drewN _⟩
      · have t2' : decide (0 ≤ xc) = false := by simpa using t2
        obtain rfl : tt = false := by rw [← HTT.out]; simp [t1, t2]
        clear HTT
        go_quiet (fail)
        go_wp2_with fail
        go_meet
        exact ⟨rfl, by first | exact HZ.out | exact HZ.out.drew | exact HZ.out.drewN _⟩
    · have t1' : decide (0 ≤ xb) = false := by simpa using t1
      obtain rfl : tt = false := by rw [← HTT.out]; simp [t1]
      clear HTT
      go_quiet (fail)
      go_wp2_with fail
      go_meet
      exact ⟨rfl, by first | exact HZ.out | exact HZ.out.drew | exact HZ.out.drewN _⟩
  case rest =>
  obtain ⟨rfl, h1⟩ := hcut
  have hst : tt = true → S1 = S.tax (xb + xc + 2) := fun hb => by
    rw [← HTT.out] at hb
    rw [← HS1.out, if_pos (by simpa using hb)]
  have hsf : tt = false → S1 = S := fun hb => by
    rw [← HTT.out] at hb
    rw [← HS1.out, if_neg (by simpa using hb)]
  have HT := Lib.hid hst
  have HF := Lib.hid hsf
  have H1 := Lib.hid h1
  clear hst hsf h1 HTT HS1 HZ Q8 d0
  go_upto_if 41 with fail
  go_cut [] (fun wx => ∃ A m, SepO W oo wx (cparts (k.rw A m) S1 ++ frL hb (k.rw A m) l z ⟨kd, xa, xb, xc, xv⟩ an0))
  case first =>
    as_aux_lemma =>
    clear HC
    cases tt
    · go_wp2_with fail
      go_meet
      exact ⟨k.A, k.n, by rw [HF.out (by trivial)]; exact H1.out⟩
    · have hw := HW1.out (by trivial)
      have htx : I64 (xb + xc + 2) := by rcases HTX.out with h | h; exact h; cases h
      obtain ⟨⟨q0, z0, z1, z2, z3, z4⟩, y0, y1, y2, y3, yf, yb, yz, yl⟩ := fr_at H1.out
      go_wp2_with fail
      (try rw [hw])
      refine (tax_in (xb + xc + 2) htx HO.out H1.out).mono ?_
      rintro e w3 ⟨rfl, A, m, h3⟩
      have H3 := Lib.hid h3
      clear h3 H1
      go_wp2_with fail
      go_meet
      exact ⟨A, m, by rw [HT.out (by trivial)]; exact H3.out⟩
  case rest =>
  as_aux_lemma =>
  clear HT HF H1 HO HTX HW1
  obtain ⟨A1, m1, h1⟩ := hcut
  have HC := Lib.hid (HC.out A1 m1)
  obtain ⟨q0, y0, y1, y2, y3, yf, yb, yz, yl⟩ := fr_at (k := k.rw A1 m1) h1
  replace q0 : wc.cell? ⟨hb, 0, none⟩ = some (pt k.c) ∧ wc.cell? ⟨z, 0, none⟩ = some (i6 kd) ∧ wc.cell? ⟨z, 1, none⟩ = some (i6 xa) ∧ wc.cell? ⟨z, 2, none⟩ = some (i6 xb) ∧ wc.cell? ⟨z, 3, none⟩ = some (i6 xc) ∧ wc.cell? ⟨z, 4, none⟩ = some (.int .u64 xv) := q0
  have H1 := Lib.hid h1
  clear h1
  go_wp2_with fail
  go_region_held3 (fun w' => w'.cell? ⟨hb, 0, none⟩ = some (pt k.c) ∧ w'.cell? ⟨z, 0, none⟩ = some (i6 kd) ∧ w'.cell? ⟨z, 1, none⟩ = some (i6 xa) ∧ w'.cell? ⟨z, 2, none⟩ = some (i6 xb) ∧ w'.cell? ⟨z, 3, none⟩ = some (i6 xc) ∧ w'.cell? ⟨z, 4, none⟩ = some (.int .u64 xv)) (first | exact q0 | exact f0 | exact f1 | go_keep) ((go_at_call 71; (with_reducible refine (HC.out _ ?hx).mono ?_); (case hx => first | exact H1.out | exact H1.out.drew | exact H1.out.drewN _); rintro e w5 ⟨rfl, A, m, h5⟩; obtain ⟨f0, y0, y1, y2, y3, yf, yb, yz, yl⟩ := fr_at (k := k.rw A m) h5; have f1 := (fr_at (fr_put (k := k.rw A m) ⟨T1, false, 0, 0⟩ h5)).1))
  have H5 := Lib.hid h5
  clear h5 f0 q0 H1 HC
  go_wp2_with fail
  obtain ⟨w9, hw9, h9, e0, e1, e2, e3⟩ := an_put (a0 := an0) ⟨T1, false, 0, 0⟩ H5.out
  rw [← hw9]
  refine bodyPost_ret (v := An.val ⟨T1, false, 0, 0⟩) (by simp [results, Tryz.results35, go_sem, e0, e1, e2, e3]) rfl ⟨rfl, A, m, c_drop (c_drop h9)⟩
end
end Go.Proofs.YtihmkkjmnbehbaaGreat.Wh
