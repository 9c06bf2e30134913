/- ObjApart as a contract. Condition: numbers are of their kinds, the list reads as a list. -/
import Derived.Test.YtfaffpmmjlddeaaObjLaws
import Derived.Deep.DeepCutAuto
import Derived.Deep.CutBlock
set_option linter.unusedVariables false
set_option linter.unusedSimpArgs false
namespace Go.Proofs.Ytfaffpmmjlddeaa.Ob
open Go.RowKit Go.Proofs.Ytfaffpmmjlddeaa.W Go.Proofs.Ytfaffpmmjlddeaa.Ar Go.Proofs.Ytfaffpmmjlddeaa.Hea

/-- What the two objects' words are while fields of the first one are written. -/
structure Apart (sa sb wb : Int) (l : List Int) (k : Nat) (ws : List Int) : Prop where
  len : ws.length = 200
  head : ws[(sa + 3).toNat]?.getD 0 = wb
  way : ws[(sa + 4).toNat]?.getD 0 = sa + 3
  zero : ∀ j : Nat, (j : Int) < sb → ws[(sa + 5).toNat + j]?.getD 0 = 0
  fld : ∀ j : Nat, j < k → ws[3 + j]?.getD 0 = l[j]?.getD 0
theorem Apart.ld {sa sb wb : Int} {l : List Int} {k : Nat} {ws : List Int} (h : Apart sa sb wb l k ws) {a : Int} {y : Nat} (ha : a = (y : Int)) (hy : y < 200) : ldW ws a = ws[y]?.getD 0 ∧ inn ws a = true := by
  subst ha
  have hi : inn ws (y : Int) = true := inn_of (by omega) (by have := h.len; omega)
  exact ⟨by unfold ldW; rw [hi]; simp, hi⟩
theorem place_of {a k : Int} (h0 : 0 ≤ a) (h1 : a ≤ 1048576) (h2 : 0 ≤ k) (h3 : k < 64) : placeOf a k = a + 2 + k := if_pos (by simp [okAt]; omega)
theorem Apart.start {A B : Hd} (ha : A.good) (hb : B.good) (l : List Int) {z : List Int} (hz : z.length = 200) (hv : ∀ y : Nat, z[y]?.getD 0 = 0) : mkErr z 1 A = 0 ∧ mkErr (mkW z 1 A) (A.size + 3) B = 0 ∧ Apart A.size B.size B.word l 0 (mkW (mkW z 1 A) (A.size + 3) B) := by
  have ga := ha
  have gb := hb
  unfold Hd.good at ga gb
  have w1 : within (z.length : Int) 1 (A.size + 2) = true := Go.Proofs.Ytfaffpmmjlddeaa.Ar.within_yes (by omega)
  have e1 : mkErr z 1 A = 0 := by unfold mkErr; rw [if_pos ha, if_pos w1]
  have l1 : (mkW z 1 A).length = 200 := by
    unfold mkW; rw [if_pos ha, if_pos w1, List.length_set, List.length_set, zro_len (by omega)]; exact hz
  have g1 : ∀ y : Nat, A.size + 3 ≤ (y : Int) → (mkW z 1 A)[y]?.getD 0 = 0 := by
    intro y hy
    unfold mkW
    rw [if_pos ha, if_pos w1, List.getElem?_set_ne (by omega), List.getElem?_set_ne (by omega), zro_get (by omega), if_neg (by omega)]
    exact hv y
  generalize mkW z 1 A = ws at l1 g1 ⊢
  have w2 : within (ws.length : Int) (A.size + 3) (B.size + 2) = true := Go.Proofs.Ytfaffpmmjlddeaa.Ar.within_yes (by omega)
  refine ⟨e1, by unfold mkErr; rw [if_pos hb, if_pos w2], ?_⟩
  have hz : (zro ws (A.size + 3).toNat (B.size + 2).toNat).length = 200 := by rw [zro_len (by omega), l1]
  unfold mkW
  rw [if_pos hb, if_pos w2]
  refine ⟨by rw [List.length_set, List.length_set]; exact hz, ?_, ?_, ?_, fun j hj => by omega⟩
  · rw [List.getElem?_set_ne (by omega), List.getElem?_set_self (by rw [hz]; omega)]; rfl
  · rw [show (A.size + 3 + 1).toNat = (A.size + 4).toNat by omega, List.getElem?_set_self (by rw [List.length_set, hz]; omega)]; rfl
  · intro j hj
    rw [List.getElem?_set_ne (by omega), List.getElem?_set_ne (by omega), zro_get (by omega), if_pos (by omega)]; rfl
theorem rep200 (y : Nat) : (List.replicate 200 (0 : Int))[y]?.getD 0 = 0 := by
  rw [List.getElem?_replicate]; split <;> rfl
theorem Apart.put {sa sb wb : Int} {l : List Int} {k : Nat} {ws : List Int} (h : Apart sa sb wb l k ws) (s0 : 0 ≤ sa) (s1 : sa ≤ 64) (t1 : sb ≤ 64) (hk : (k : Int) < sa) : erW ws (placeOf 1 (k : Int)) = 0 ∧ Apart sa sb wb l (k + 1) (stW ws (placeOf 1 (k : Int)) (l[k]?.getD 0)) := by
  have hl := h.len
  have hp : placeOf 1 (k : Int) = ((3 + k : Nat) : Int) := by rw [place_of (by omega) (by omega) (by omega) (by omega)]; omega
  rw [hp]
  have hi := (h.ld (a := ((3 + k : Nat) : Int)) rfl (by omega)).2
  unfold erW stW
  rw [hi, if_pos rfl, if_pos rfl, Int.toNat_natCast]
  refine ⟨rfl, ⟨by rw [List.length_set]; exact hl, ?_, ?_, ?_, ?_⟩⟩
  · rw [List.getElem?_set_ne (by omega)]; exact h.head
  · rw [List.getElem?_set_ne (by omega)]; exact h.way
  · intro j hj; rw [List.getElem?_set_ne (by omega)]; exact h.zero j hj
  · intro j hj
    by_cases e : j = k
    · subst e; rw [List.getElem?_set_self (by omega)]; rfl
    · rw [List.getElem?_set_ne (by omega)]; exact h.fld j (by omega)

set_option maxRecDepth 20000 in
set_option maxHeartbeats 8000000 in
theorem Apart_calls {v : Value} {l : List Int} (a0 a1 a2 a3 : Int) (g n o : Bool) (c0 c1 c2 c3 : Int) (g' n' o' : Bool) (w : World) (g1 : SL w (fun i => i < w.heap.size) .u64 v l) (q1 : ∀ x ∈ l, w64 x) :
    Calls Try.prog 12 #[.agg #[.int .i64 a0, .int .i64 a1, .int .i64 a2, .int .i64 a3, .bool g, .bool n, .bool o], .agg #[.int .i64 c0, .int .i64 c1, .int .i64 c2, .int .i64 c3, .bool g', .bool n', .bool o'], v] w fun e w' => e = .returned (.bool true) ∧ Below w.heap.size w w' := by
  obtain ⟨A1, cp, rfl, hm1, hc1⟩ := g1
  have HC := Lib.hid hc1
  have HQ := Lib.hid q1
  clear hc1 q1
  have kw := ((Keep.refl (fun _ => False) w).alloc (.cells #[.int .i64 a0, .int .i64 a1, .int .i64 a2, .int .i64 a3, .bool g, .bool n, .bool o] 44)).alloc (.cells #[.int .i64 c0, .int .i64 c1, .int .i64 c2, .int .i64 c3, .bool g', .bool n', .bool o'] 44)
  have hA := (Blk.new w 44 #[.int .i64 a0, .int .i64 a1, .int .i64 a2, .int .i64 a3, .bool g, .bool n, .bool o]).alloc (.cells #[.int .i64 c0, .int .i64 c1, .int .i64 c2, .int .i64 c3, .bool g', .bool n', .bool o'] 44)
  have hB := Blk.new (w.alloc (.cells #[.int .i64 a0, .int .i64 a1, .int .i64 a2, .int .i64 a3, .bool g, .bool n, .bool o] 44)) 44 #[.int .i64 c0, .int .i64 c1, .int .i64 c2, .int .i64 c3, .bool g', .bool n', .bool o']
  rw [show (w.alloc (.cells #[.int .i64 a0, .int .i64 a1, .int .i64 a2, .int .i64 a3, .bool g, .bool n, .bool o] 44)).heap.size = w.heap.size + 1 from by show (w.heap.push _).size = _; rw [Array.size_push]] at hB
  by_cases ga : Hd.good ⟨a0, a1, a2, a3, g, n, o⟩
  · have GA := Lib.hid ga
    by_cases gb : Hd.good ⟨c0, c1, c2, c3, g', n', o'⟩
    · have GB := Lib.hid gb
      obtain ⟨e1, e2, hap⟩ := Apart.start ga gb l (z := List.replicate 200 0) List.length_replicate rep200
      have bA : 0 ≤ a0 ∧ a0 ≤ 64 := ⟨ga.1, ga.2.1⟩
      have bB : 0 ≤ c0 ∧ c0 ≤ 64 := ⟨gb.1, gb.2.1⟩
      simp only [] at hap e2
      have HE1 := Lib.hid e1
      have HE2 := Lib.hid e2
      clear ga gb e1 e2
      obtain ⟨bA0, bA1⟩ := bA
      obtain ⟨bB0, bB1⟩ := bB
      go_enter Try.func12, Try.ntmps12
      go_wp2_with fail
      refine (RGood_r ⟨a0, a1, a2, a3, g, n, o⟩ _ true (by simpa using GA.out)).mono ?_
      rintro e w1 ⟨rfl, k⟩
      replace hA := k.blk hA (fun h => h)
      replace hB := k.blk hB (fun h => h)
      replace kw := kw.trans k (fun i h => .inl h)
      clear k
      have d0 := hB.cell 0
      have d1 := hB.cell 1
      have d2 := hB.cell 2
      have d3 := hB.cell 3
      have d4 := hB.cell 4
      have d5 := hB.cell 5
      have d6 := hB.cell 6
      simp at d0 d1 d2 d3 d4 d5 d6
      go_wp2_with fail
      refine (RGood_r ⟨c0, c1, c2, c3, g', n', o'⟩ _ true (by simpa using GB.out)).mono ?_
      rintro e w2 ⟨rfl, k⟩
      clear d0 d1 d2 d3 d4 d5 d6
      replace hA := k.blk hA (fun h => h)
      replace hB := k.blk hB (fun h => h)
      replace kw := kw.trans k (fun i h => .inl h)
      clear k
      go_wp2_with fail
      refine (New_at 200 kw (by omega) (by omega)).mono ?_
      rintro e w3 ⟨b, hi, rfl, h, hhi, k⟩
      have lA := hA.lt
      have lB := hB.lt
      replace hA := k.blk hA (fun h => h)
      replace hB := k.blk hB (fun h => h)
      have hhi' : hi ≤ w3.heap.size := Nat.le_of_eq hhi
      obtain ⟨lo, hlo⟩ : ∃ lo, w2.heap.size = lo := ⟨_, rfl⟩
      rw [hlo] at h lA lB
      clear k kw hhi hlo
      replace h : OAt w lo hi w3 b (List.replicate 200 0) := h
      have c0 := hA.cell 0
      have c1 := hA.cell 1
      have c2 := hA.cell 2
      have c3 := hA.cell 3
      have c4 := hA.cell 4
      have c5 := hA.cell 5
      have c6 := hA.cell 6
      simp at c0 c1 c2 c3 c4 c5 c6
      go_wp2_with fail
      refine (Words_r ⟨a0, a1, a2, a3, g, n, o⟩ _ (a0 + 2) (wordsOf_good GA.out)).mono ?_
      rintro e w4 ⟨rfl, k⟩
      clear c0 c1 c2 c3 c4 c5 c6
      replace h := h.stay k
      replace hA := k.blk hA (fun h => h)
      replace hB := k.blk hB (fun h => h)
      clear k
      have c0 := hA.cell 0
      have c1 := hA.cell 1
      have c2 := hA.cell 2
      have c3 := hA.cell 3
      have c4 := hA.cell 4
      have c5 := hA.cell 5
      have c6 := hA.cell 6
      simp at c0 c1 c2 c3 c4 c5 c6
      go_wp2_with fail
      refine (Make_at 1 ⟨a0, a1, a2, a3, g, n, o⟩ h 0 _ HE1.out rfl).mono ?_
      rintro e w5 ⟨rfl, h5, k⟩
      clear c0 c1 c2 c3 c4 c5 c6
      replace hA := k.blk hA (fun h => by first | omega | (obtain ⟨h1, h2⟩ := h; omega))
      replace hB := k.blk hB (fun h => by first | omega | (obtain ⟨h1, h2⟩ := h; omega))
      clear k
      clear h
      have hs : (1 : Int) + (a0 + 2) = a0 + 3 := by omega
      have d0 := hB.cell 0
      have d1 := hB.cell 1
      have d2 := hB.cell 2
      have d3 := hB.cell 3
      have d4 := hB.cell 4
      have d5 := hB.cell 5
      have d6 := hB.cell 6
      simp at d0 d1 d2 d3 d4 d5 d6
      go_wp2_with fail
      refine (Make_at (a0 + 3) ⟨c0, c1, c2, c3, g', n', o'⟩ h5 0 _ HE2.out rfl).mono ?_
      rintro e w6 ⟨rfl, h6, k⟩
      clear d0 d1 d2 d3 d4 d5 d6
      replace hA := k.blk hA (fun h => by first | omega | (obtain ⟨h1, h2⟩ := h; omega))
      replace hB := k.blk hB (fun h => by first | omega | (obtain ⟨h1, h2⟩ := h; omega))
      clear h5 k HE1 HE2 hs
      generalize mkW (mkW (List.replicate 200 0) 1 ⟨a0, a1, a2, a3, g, n, o⟩) (a0 + 3) ⟨c0, c1, c2, c3, g', n', o'⟩ = ws0 at h6 hap
      have HAP := Lib.hid hap
      clear hap
      generalize hwb : Hd.word ⟨c0, c1, c2, c3, g', n', o'⟩ = wb at HAP
      have HWB := Lib.hid hwb
      clear hwb
      go_upto_block 0 with fail
      go_cut [10] (fun i wx => ∃ ws, OAt w lo hi wx b ws ∧ Apart a0 c0 wb l (min l.length a0.toNat) ws ∧ Blk wx w.heap.size 44 #[.int .i64 a0, .int .i64 a1, .int .i64 a2, .int .i64 a3, .bool g, .bool n, .bool o] ∧ Blk wx (w.heap.size + 1) 44 #[.int .i64 c0, .int .i64 c1, .int .i64 c2, .int .i64 c3, .bool g', .bool n', .bool o'])
      case first =>
        as_aux_lemma =>
        go_wp2_with fail
        go_loopg [10] l.length (fun gk i wr => ∃ (k : Nat) (ws : List Int), k + gk = l.length ∧ (k : Int) ≤ a0 ∧ i = .int .i64 k ∧ OAt w lo hi wr b ws ∧ Apart a0 c0 wb l k ws ∧ Blk wr w.heap.size 44 #[.int .i64 a0, .int .i64 a1, .int .i64 a2, .int .i64 a3, .bool g, .bool n, .bool o] ∧ Blk wr (w.heap.size + 1) 44 #[.int .i64 c0, .int .i64 c1, .int .i64 c2, .int .i64 c3, .bool g', .bool n', .bool o'])
        case atStart => exact ⟨0, ws0, by omega, by omega, rfl, h6, HAP.out, hA, hB⟩
        case round =>
          clear h6 hA hB HAP
          obtain ⟨k, ws, hg, hk, rfl, hr, hap, hA, hB⟩ := hrel
          have HAP := Lib.hid hap
          clear hap
          have c0 := hA.cell 0
          simp at c0
          by_cases hc : k < l.length ∧ (k : Int) < a0
          · obtain ⟨hl1, hl2⟩ := hc
            obtain ⟨b1, o1, rfl, _, hlt1, hcell1⟩ := HC.out (by omega)
            have q1 : wr.cell? ⟨b1, o1 + k, none⟩ = some (.int .u64 (l[k]?.getD 0)) := (World.cell?_of_block (hr.2.1.block b1 hlt1 (fun h => h))).trans (hcell1 k hl1)
            have hxx : w64 (l[k]?.getD 0) := HQ.out _ (by simp [hl1])
            obtain ⟨p1, p2⟩ := Apart.put HAP.out bA0 bA1 bB1 hl2
            generalize l[k]?.getD 0 = x at q1 hxx p1 p2
            have P1 := Lib.hid p1
            have P2 := Lib.hid p2
            have HX := Lib.hid hxx
            clear p1 p2 hxx hcell1
            go_wp2_with fail
            refine (SetField_at 1 (k : Int) x hr HX.out 0 _ P1.out rfl).mono ?_
            rintro e w7 ⟨rfl, hr7, k7⟩
            replace hA := k7.blk hA (fun h => by omega)
            replace hB := k7.blk hB (fun h => by omega)
            clear k7
            go_wp2_with fail
            go_roundg (gk - 1)
            case measure => omega
            case rel => exact ⟨k + 1, _, by omega, by omega, by go_num, hr7, P2.out, hA, hB⟩
          · have hmin : min l.length a0.toNat = k := by omega
            rcases (by omega : ¬ k < l.length ∨ (k < l.length ∧ ¬ (k : Int) < a0)) with hx | ⟨hx, hx'⟩
            all_goals
              clear hc
              go_wp2_with fail
              go_meet
              exact ⟨ws, hr, hmin ▸ HAP.out, hA, hB⟩
      case rest =>
        clear h6 hA hB HAP
        obtain ⟨ws, h, hap, hA, hB⟩ := hcut
        have HAP := Lib.hid hap
        clear hap
        have hld := HAP.out.ld (a := a0 + 3) (y := (a0 + 3).toNat) (by omega) (by omega)
        have hld2 := HAP.out.ld (a := a0 + 3 + 1) (y := (a0 + 4).toNat) (by omega) (by omega)
        have H1 := Lib.hid hld
        have H2 := Lib.hid hld2
        clear hld hld2
        go_wp2_with fail
        refine (Head_at (a0 + 3) h ⟨c0, c1, c2, c3, g', n', o'⟩ 0 (head_ok GB.out (by rw [H1.out.1, HAP.out.head, HWB.out])) (herr_ok GB.out H1.out.2 (by rw [H1.out.1, HAP.out.head, HWB.out]))).mono ?_
        rintro e w7 ⟨rfl, h7, k⟩
        replace hA := k.blk hA (fun h => by first | omega | (obtain ⟨h1, h2⟩ := h; omega))
        replace hB := k.blk hB (fun h => by first | omega | (obtain ⟨h1, h2⟩ := h; omega))
        clear k
        clear h
        simp only [Hd.cells]
        have hX := Blk.new w7 44 #[.int .i64 c0, .int .i64 c1, .int .i64 c2, .int .i64 c3, .bool g', .bool n', .bool o']
        have kz := (Keep.refl (fun _ => False) w7).alloc (.cells #[.int .i64 c0, .int .i64 c1, .int .i64 c2, .int .i64 c3, .bool g', .bool n', .bool o'] 44)
        have h8 := h7.stay kz
        replace hA := kz.blk hA (fun h => h)
        replace hB := kz.blk hB (fun h => h)
        have hw7 : hi ≤ w7.heap.size := h7.2.2.2
        clear h7 kz
        go_wp2_with fail
        refine (Way_at (a0 + 3) h8 (a0 + 3) 0 (way_ok (by omega) (by omega) (by rw [H2.out.1, HAP.out.way]) (by omega) (by omega)) (by rw [if_pos (by simp [okAt]; omega)]; unfold erW; rw [H2.out.2]; rfl)).mono ?_
        rintro e w9 ⟨rfl, h9, k⟩
        replace hA := k.blk hA (fun h => by first | omega | (obtain ⟨h1, h2⟩ := h; omega))
        replace hB := k.blk hB (fun h => by first | omega | (obtain ⟨h1, h2⟩ := h; omega))
        replace hX := k.blk hX (fun h => by first | omega | (obtain ⟨h1, h2⟩ := h; omega))
        clear k
        clear h8
        have hXX : hi ≤ w7.heap.size := hw7
        generalize w7.heap.size = X at hX hXX ⊢
        have hXhi0 := hXX
        clear hw7 hXX H1 H2
        go_wp2_with fail
        go_loopg [15] c0.toNat (fun gk i wr => ∃ k : Nat, (k : Int) + gk = c0 ∧ i = .int .i64 k ∧ OAt w lo hi wr b ws ∧ Blk wr w.heap.size 44 #[.int .i64 a0, .int .i64 a1, .int .i64 a2, .int .i64 a3, .bool g, .bool n, .bool o] ∧ Blk wr (w.heap.size + 1) 44 #[.int .i64 c0, .int .i64 c1, .int .i64 c2, .int .i64 c3, .bool g', .bool n', .bool o'] ∧ Blk wr X 44 #[.int .i64 c0, .int .i64 c1, .int .i64 c2, .int .i64 c3, .bool g', .bool n', .bool o'])
        case atStart => exact ⟨0, by omega, rfl, h9, hA, hB, hX⟩
        case round =>
          clear h9 hA hB hX
          obtain ⟨k, hg, rfl, hr, hA, hB, hX⟩ := hrel
          have hXhi : hi ≤ X := hXhi0
          have d0 := hB.cell 0
          simp at d0
          by_cases hc : (k : Int) < c0
          · have hp : placeOf (a0 + 3) (k : Int) = (((a0 + 5).toNat + k : Nat) : Int) := by rw [place_of (by omega) (by omega) (by omega) (by omega)]; omega
            have hl := HAP.out.ld (a := placeOf (a0 + 3) (k : Int)) hp (by omega)
            rw [HAP.out.zero k hc] at hl
            have HL := Lib.hid hl
            clear hp hl
            go_wp2_with fail
            refine (Field_at (a0 + 3) (k : Int) hr 0 0 HL.out.1 (by unfold erW; rw [HL.out.2]; rfl)).mono ?_
            rintro e w10 ⟨rfl, hr10, k10⟩
            replace hA := k10.blk hA (fun h => by omega)
            replace hB := k10.blk hB (fun h => by omega)
            replace hX := k10.blk hX (fun h => by omega)
            clear k10
            go_wp2_with fail
            go_roundg (gk - 1)
            case measure => omega
            case rel => exact ⟨k + 1, by omega, by go_num, hr10, hA, hB, hX⟩
          · go_wp2_with fail
            obtain ⟨wo, ho⟩ : ∃ wo : World, wo = wr := ⟨_, rfl⟩
            clear ho d0
            go_loopg [18] l.length (fun gk i wr => ∃ k : Nat, k + gk = l.length ∧ (k : Int) ≤ a0 ∧ i = .int .i64 k ∧ OAt w lo hi wr b ws ∧ Blk wr w.heap.size 44 #[.int .i64 a0, .int .i64 a1, .int .i64 a2, .int .i64 a3, .bool g, .bool n, .bool o] ∧ Blk wr (w.heap.size + 1) 44 #[.int .i64 c0, .int .i64 c1, .int .i64 c2, .int .i64 c3, .bool g', .bool n', .bool o'] ∧ Blk wr X 44 #[.int .i64 c0, .int .i64 c1, .int .i64 c2, .int .i64 c3, .bool g', .bool n', .bool o'])
            case atStart => exact ⟨0, by omega, by omega, rfl, hr, hA, hB, hX⟩
            case round =>
              clear hr hA hB hX hg hc
              obtain ⟨k, hg, hk, rfl, hr, hA, hB, hX⟩ := hrel
              have c0 := hA.cell 0
              simp at c0
              by_cases hc : k < l.length ∧ (k : Int) < a0
              · obtain ⟨hl1, hl2⟩ := hc
                obtain ⟨b1, o1, rfl, _, hlt1, hcell1⟩ := HC.out (by omega)
                have q1 : ∀ W', OAt w lo hi W' b ws → W'.cell? ⟨b1, o1 + k, none⟩ = some (.int .u64 (l[k]?.getD 0)) := fun W' h => (World.cell?_of_block (h.2.1.block b1 hlt1 (fun h => h))).trans (hcell1 k hl1)
                have hp : placeOf 1 (k : Int) = ((3 + k : Nat) : Int) := by rw [place_of (by omega) (by omega) (by omega) (by omega)]; omega
                have hl := HAP.out.ld (a := placeOf 1 (k : Int)) hp (by omega)
                rw [HAP.out.fld k (by omega)] at hl
                generalize l[k]?.getD 0 = x at q1 hl
                have HL := Lib.hid hl
                have HQ1 := Lib.hid q1
                have hxx : (x != x) = false := by simp
                clear hp hl q1 hcell1
                go_wp2_with fail
                refine (Field_at 1 (k : Int) hr x 0 HL.out.1 (by unfold erW; rw [HL.out.2]; rfl)).mono ?_
                rintro e w10 ⟨rfl, hr10, k10⟩
                replace hA := k10.blk hA (fun h => by omega)
                replace hB := k10.blk hB (fun h => by omega)
                replace hX := k10.blk hX (fun h => by omega)
                have q10 := HQ1.out w10 hr10
                clear k10 c0
                go_wp2_with fail
                go_roundg (gk - 1)
                case measure => omega
                case rel => exact ⟨k + 1, by omega, by omega, by go_num, hr10, hA, hB, hX⟩
              · rcases (by omega : ¬ k < l.length ∨ (k < l.length ∧ ¬ (k : Int) < a0)) with hx | ⟨hx, hx'⟩
                all_goals
                  clear hc
                  go_wp2_with fail
                  refine (awake_calls _).mono ?_
                  rintro e w11 ⟨rfl, k11⟩
                  replace hB := k11.blk hB (fun h => h)
                  replace hX := k11.blk hX (fun h => h)
                  have hh := hr.stay k11
                  clear k11 c0
                  have d0 := hB.cell 0
                  have d1 := hB.cell 1
                  have d2 := hB.cell 2
                  have d3 := hB.cell 3
                  have d4 := hB.cell 4
                  have d5 := hB.cell 5
                  have d6 := hB.cell 6
                  simp at d0 d1 d2 d3 d4 d5 d6
                  have f0 := hX.cell 0
                  have f1 := hX.cell 1
                  have f2 := hX.cell 2
                  have f3 := hX.cell 3
                  have f4 := hX.cell 4
                  have f5 := hX.cell 5
                  have f6 := hX.cell 6
                  simp at f0 f1 f2 f3 f4 f5 f6
                  go_wp2_with fail
                  go_ret
                  exact ⟨by simp, hh.below⟩
    · have GB := Lib.hid gb
      clear gb ga
      go_enter Try.func12, Try.ntmps12
      go_wp2_with fail
      refine (RGood_r ⟨a0, a1, a2, a3, g, n, o⟩ _ true (by simpa using GA.out)).mono ?_
      rintro e w1 ⟨rfl, k⟩
      replace hB := k.blk hB (fun h => h)
      replace kw := kw.trans k (fun i h => .inl h)
      clear k
      have d0 := hB.cell 0
      have d1 := hB.cell 1
      have d2 := hB.cell 2
      have d3 := hB.cell 3
      have d4 := hB.cell 4
      have d5 := hB.cell 5
      have d6 := hB.cell 6
      simp at d0 d1 d2 d3 d4 d5 d6
      go_wp2_with fail
      refine (RGood_r ⟨c0, c1, c2, c3, g', n', o'⟩ _ false (by simpa using GB.out)).mono ?_
      rintro e w2 ⟨rfl, k⟩
      clear d0 d1 d2 d3 d4 d5 d6
      replace hB := k.blk hB (fun h => h)
      replace kw := kw.trans k (fun i h => .inl h)
      clear k
      go_wp2_with fail
      refine (awake_calls _).mono ?_
      rintro e w3 ⟨rfl, k⟩
      replace hB := k.blk hB (fun h => h)
      replace kw := kw.trans k (fun i h => .inl h)
      clear k
      go_wp2_with fail
      go_ret
      exact ⟨by simp, kw.below (fun i h => h.elim)⟩
  · have GA := Lib.hid ga
    clear ga
    go_enter Try.func12, Try.ntmps12
    go_wp2_with fail
    refine (RGood_r ⟨a0, a1, a2, a3, g, n, o⟩ _ false (by simpa using GA.out)).mono ?_
    rintro e w1 ⟨rfl, k⟩
    replace kw := kw.trans k (fun i h => .inl h)
    clear k
    go_wp2_with fail
    refine (awake_calls _).mono ?_
    rintro e w3 ⟨rfl, k⟩
    replace kw := kw.trans k (fun i h => .inl h)
    clear k
    go_wp2_with fail
    go_ret
    exact ⟨by simp, kw.below (fun i h => h.elim)⟩
end Go.Proofs.Ytfaffpmmjlddeaa.Ob
