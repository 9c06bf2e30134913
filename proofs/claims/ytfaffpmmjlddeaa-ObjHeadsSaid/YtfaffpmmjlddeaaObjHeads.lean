/- ObjHeads as a contract. Condition: numbers are of their kinds. -/
import Derived.Test.YtfaffpmmjlddeaaObjLaws
set_option linter.unusedVariables false
set_option linter.unusedSimpArgs false
namespace Go.Proofs.Ytfaffpmmjlddeaa.Ob
open Go.RowKit Go.Proofs.Ytfaffpmmjlddeaa.W Go.Proofs.Ytfaffpmmjlddeaa.Ar Go.Proofs.Ytfaffpmmjlddeaa.Hea

theorem inn_no {ws : List Int} {a : Int} (h : a < 0 ∨ ws.length ≤ a) : inn ws a = false := Go.Proofs.Ytfaffpmmjlddeaa.Ar.within_not (by omega)
set_option maxRecDepth 20000 in
set_option maxHeartbeats 8000000 in
theorem Heads_calls (m a x : Int) (a0 a1 a2 a3 : Int) (g n o : Bool) (w : World) (m0 : 0 ≤ m) (m1 : m ≤ 255) (hx : w64 x) :
    Calls Try.prog 11 #[.int .u8 m, .int .i64 a, .int .u64 x, .agg #[.int .i64 a0, .int .i64 a1, .int .i64 a2, .int .i64 a3, .bool g, .bool n, .bool o]] w fun e w' => e = .returned (.bool true) ∧ Below w.heap.size w w' := by
  obtain ⟨N, hN⟩ : ∃ N : Nat, m % 100 = (N : Int) := ⟨(m % 100).toNat, by omega⟩
  have hN1 : N < 100 := by omega
  have hrep : (List.replicate ((N : Int)).toNat (0 : Int)).length = N := by simp
  have HN := Lib.hid hN
  have HR := Lib.hid hrep
  have HXX := Lib.hid hx
  clear hN hrep hx
  rcases (by omega : a < 0 ∨ (0 ≤ a ∧ (N : Int) ≤ a) ∨ (0 ≤ a ∧ a < (N : Int))) with ha | ⟨ha, hb⟩ | ⟨ha, hb⟩
  · have hin : ∀ l : List Int, l.length = N → inn l a = false := fun l hl => inn_no (by omega)
    have HI := Lib.hid hin
    clear hin
    by_cases hg : Hd.good ⟨a0, a1, a2, a3, g, n, o⟩
    · as_aux_lemma =>
      have HG := Lib.hid hg
      clear hg
      go_enter Try.func11, Try.ntmps11
      have hmod := HN.out
      have hB := Blk.new w 44 #[.int .i64 a0, .int .i64 a1, .int .i64 a2, .int .i64 a3, .bool g, .bool n, .bool o]
      have kw := (Keep.refl (fun _ => False) w).alloc (.cells #[.int .i64 a0, .int .i64 a1, .int .i64 a2, .int .i64 a3, .bool g, .bool n, .bool o] 44)
      go_wp2_with fail
      refine (New_at (N : Int) kw (by omega) (by omega)).mono ?_
      rintro e w1 ⟨b, hi, rfl, h, hhi, k⟩
      replace hB := k.blk hB (fun h => h)
      rw [show (w.alloc (.cells #[.int .i64 a0, .int .i64 a1, .int .i64 a2, .int .i64 a3, .bool g, .bool n, .bool o] 44)).heap.size = w.heap.size + 1 from by show (w.heap.push _).size = _; rw [Array.size_push]] at h
      clear kw k hhi
      have hcw : w.heap.size < w1.heap.size := hB.lt
      generalize hws : List.replicate ((N : Int)).toNat (0 : Int) = ws at h HR
      clear hws
      go_wp2_with fail
      refine (Store_at a x h HXX.out 2 ws (by unfold erW; rw [HI.out _ HR.out]; rfl) (by unfold stW; rw [HI.out _ HR.out]; rfl)).mono ?_
      rintro e w2 ⟨rfl, h2, k⟩
      replace hB := k.blk hB (fun h => by first | omega | (obtain ⟨h1, h2⟩ := h; omega))
      clear k
      clear h
      go_wp2_with fail
      refine (Head_at a h2 Hd.zero 2 (by unfold hdAt ldW; rw [HI.out _ HR.out]; exact hdOf_zero) (by unfold hdErr; rw [HI.out _ HR.out]; rfl)).mono ?_
      rintro e w3 ⟨rfl, h3, k⟩
      replace hB := k.blk hB (fun h => by first | omega | (obtain ⟨h1, h2⟩ := h; omega))
      clear k
      clear h2
      simp only [Hd.cells, Hd.zero]
      have kz := (Keep.refl (fun _ => False) w3).alloc (.cells #[.int .i64 0, .int .i64 0, .int .i64 0, .int .i64 0, .bool false, .bool false, .bool false] 44)
      have h4 := h3.stay kz
      replace hB := kz.blk hB (fun h => h)
      clear kz
      have c0 := hB.cell 0
      have c1 := hB.cell 1
      have c2 := hB.cell 2
      have c3 := hB.cell 3
      have c4 := hB.cell 4
      have c5 := hB.cell 5
      have c6 := hB.cell 6
      simp at c0 c1 c2 c3 c4 c5 c6
      go_wp2_with fail
      refine (SetHead_at a ⟨a0, a1, a2, a3, g, n, o⟩ h4 2 ws (by rw [if_pos HG.out]; unfold erW; rw [HI.out _ HR.out]; rfl) (by rw [if_pos HG.out]; unfold stW; rw [HI.out _ HR.out]; rfl)).mono ?_
      rintro e w5 ⟨rfl, h5, k⟩
      clear c0 c1 c2 c3 c4 c5 c6
      replace hB := k.blk hB (fun h => by first | omega | (obtain ⟨h1, h2⟩ := h; omega))
      clear k
      clear h3 h4
      go_wp2_with fail
      refine (awake_calls _).mono ?_
      rintro e w6 ⟨rfl, k⟩
      replace h5 := h5.stay k
      replace hB := k.blk hB (fun h => h)
      clear k
      have c0 := hB.cell 0
      have c1 := hB.cell 1
      have c2 := hB.cell 2
      have c3 := hB.cell 3
      have c4 := hB.cell 4
      have c5 := hB.cell 5
      have c6 := hB.cell 6
      simp at c0 c1 c2 c3 c4 c5 c6
      go_wp2_with fail
      refine (RGood_r ⟨a0, a1, a2, a3, g, n, o⟩ _ true (by simpa using HG.out)).mono ?_
      rintro e w7 ⟨rfl, k⟩
      clear c0 c1 c2 c3 c4 c5 c6
      have hh := h5.stay k
      clear k h5
      go_wp2_with fail
      go_ret
      exact ⟨by simp, hh.below⟩
    · as_aux_lemma =>
      have HG := Lib.hid hg
      clear hg
      go_enter Try.func11, Try.ntmps11
      have hmod := HN.out
      have hB := Blk.new w 44 #[.int .i64 a0, .int .i64 a1, .int .i64 a2, .int .i64 a3, .bool g, .bool n, .bool o]
      have kw := (Keep.refl (fun _ => False) w).alloc (.cells #[.int .i64 a0, .int .i64 a1, .int .i64 a2, .int .i64 a3, .bool g, .bool n, .bool o] 44)
      go_wp2_with fail
      refine (New_at (N : Int) kw (by omega) (by omega)).mono ?_
      rintro e w1 ⟨b, hi, rfl, h, hhi, k⟩
      replace hB := k.blk hB (fun h => h)
      rw [show (w.alloc (.cells #[.int .i64 a0, .int .i64 a1, .int .i64 a2, .int .i64 a3, .bool g, .bool n, .bool o] 44)).heap.size = w.heap.size + 1 from by show (w.heap.push _).size = _; rw [Array.size_push]] at h
      clear kw k hhi
      have hcw : w.heap.size < w1.heap.size := hB.lt
      generalize hws : List.replicate ((N : Int)).toNat (0 : Int) = ws at h HR
      clear hws
      go_wp2_with fail
      refine (Store_at a x h HXX.out 2 ws (by unfold erW; rw [HI.out _ HR.out]; rfl) (by unfold stW; rw [HI.out _ HR.out]; rfl)).mono ?_
      rintro e w2 ⟨rfl, h2, k⟩
      replace hB := k.blk hB (fun h => by first | omega | (obtain ⟨h1, h2⟩ := h; omega))
      clear k
      clear h
      go_wp2_with fail
      refine (Head_at a h2 Hd.zero 2 (by unfold hdAt ldW; rw [HI.out _ HR.out]; exact hdOf_zero) (by unfold hdErr; rw [HI.out _ HR.out]; rfl)).mono ?_
      rintro e w3 ⟨rfl, h3, k⟩
      replace hB := k.blk hB (fun h => by first | omega | (obtain ⟨h1, h2⟩ := h; omega))
      clear k
      clear h2
      simp only [Hd.cells, Hd.zero]
      have kz := (Keep.refl (fun _ => False) w3).alloc (.cells #[.int .i64 0, .int .i64 0, .int .i64 0, .int .i64 0, .bool false, .bool false, .bool false] 44)
      have h4 := h3.stay kz
      replace hB := kz.blk hB (fun h => h)
      clear kz
      have c0 := hB.cell 0
      have c1 := hB.cell 1
      have c2 := hB.cell 2
      have c3 := hB.cell 3
      have c4 := hB.cell 4
      have c5 := hB.cell 5
      have c6 := hB.cell 6
      simp at c0 c1 c2 c3 c4 c5 c6
      go_wp2_with fail
      refine (SetHead_at a ⟨a0, a1, a2, a3, g, n, o⟩ h4 1 ws (by exact if_neg HG.out) (by exact if_neg HG.out)).mono ?_
      rintro e w5 ⟨rfl, h5, k⟩
      clear c0 c1 c2 c3 c4 c5 c6
      replace hB := k.blk hB (fun h => by first | omega | (obtain ⟨h1, h2⟩ := h; omega))
      clear k
      clear h3 h4
      go_wp2_with fail
      refine (awake_calls _).mono ?_
      rintro e w6 ⟨rfl, k⟩
      replace h5 := h5.stay k
      replace hB := k.blk hB (fun h => h)
      clear k
      have c0 := hB.cell 0
      have c1 := hB.cell 1
      have c2 := hB.cell 2
      have c3 := hB.cell 3
      have c4 := hB.cell 4
      have c5 := hB.cell 5
      have c6 := hB.cell 6
      simp at c0 c1 c2 c3 c4 c5 c6
      go_wp2_with fail
      refine (RGood_r ⟨a0, a1, a2, a3, g, n, o⟩ _ false (by simpa using HG.out)).mono ?_
      rintro e w7 ⟨rfl, k⟩
      clear c0 c1 c2 c3 c4 c5 c6
      have hh := h5.stay k
      clear k h5
      go_wp2_with fail
      go_ret
      exact ⟨by simp, hh.below⟩
  · have hdl : decide (a < (N : Int)) = false := by simp; omega
    have hin : ∀ l : List Int, l.length = N → inn l a = false := fun l hl => inn_no (by omega)
    have HI := Lib.hid hin
    clear hin
    by_cases hg : Hd.good ⟨a0, a1, a2, a3, g, n, o⟩
    · as_aux_lemma =>
      have HG := Lib.hid hg
      clear hg
      go_enter Try.func11, Try.ntmps11
      have hmod := HN.out
      have hB := Blk.new w 44 #[.int .i64 a0, .int .i64 a1, .int .i64 a2, .int .i64 a3, .bool g, .bool n, .bool o]
      have kw := (Keep.refl (fun _ => False) w).alloc (.cells #[.int .i64 a0, .int .i64 a1, .int .i64 a2, .int .i64 a3, .bool g, .bool n, .bool o] 44)
      go_wp2_with fail
      refine (New_at (N : Int) kw (by omega) (by omega)).mono ?_
      rintro e w1 ⟨b, hi, rfl, h, hhi, k⟩
      replace hB := k.blk hB (fun h => h)
      rw [show (w.alloc (.cells #[.int .i64 a0, .int .i64 a1, .int .i64 a2, .int .i64 a3, .bool g, .bool n, .bool o] 44)).heap.size = w.heap.size + 1 from by show (w.heap.push _).size = _; rw [Array.size_push]] at h
      clear kw k hhi
      have hcw : w.heap.size < w1.heap.size := hB.lt
      generalize hws : List.replicate ((N : Int)).toNat (0 : Int) = ws at h HR
      clear hws
      go_wp2_with fail
      refine (Store_at a x h HXX.out 2 ws (by unfold erW; rw [HI.out _ HR.out]; rfl) (by unfold stW; rw [HI.out _ HR.out]; rfl)).mono ?_
      rintro e w2 ⟨rfl, h2, k⟩
      replace hB := k.blk hB (fun h => by first | omega | (obtain ⟨h1, h2⟩ := h; omega))
      clear k
      clear h
      go_wp2_with fail
      refine (Head_at a h2 Hd.zero 2 (by unfold hdAt ldW; rw [HI.out _ HR.out]; exact hdOf_zero) (by unfold hdErr; rw [HI.out _ HR.out]; rfl)).mono ?_
      rintro e w3 ⟨rfl, h3, k⟩
      replace hB := k.blk hB (fun h => by first | omega | (obtain ⟨h1, h2⟩ := h; omega))
      clear k
      clear h2
      simp only [Hd.cells, Hd.zero]
      have kz := (Keep.refl (fun _ => False) w3).alloc (.cells #[.int .i64 0, .int .i64 0, .int .i64 0, .int .i64 0, .bool false, .bool false, .bool false] 44)
      have h4 := h3.stay kz
      replace hB := kz.blk hB (fun h => h)
      clear kz
      have c0 := hB.cell 0
      have c1 := hB.cell 1
      have c2 := hB.cell 2
      have c3 := hB.cell 3
      have c4 := hB.cell 4
      have c5 := hB.cell 5
      have c6 := hB.cell 6
      simp at c0 c1 c2 c3 c4 c5 c6
      go_wp2_with fail
      refine (SetHead_at a ⟨a0, a1, a2, a3, g, n, o⟩ h4 2 ws (by rw [if_pos HG.out]; unfold erW; rw [HI.out _ HR.out]; rfl) (by rw [if_pos HG.out]; unfold stW; rw [HI.out _ HR.out]; rfl)).mono ?_
      rintro e w5 ⟨rfl, h5, k⟩
      clear c0 c1 c2 c3 c4 c5 c6
      replace hB := k.blk hB (fun h => by first | omega | (obtain ⟨h1, h2⟩ := h; omega))
      clear k
      clear h3 h4
      go_wp2_with fail
      refine (awake_calls _).mono ?_
      rintro e w6 ⟨rfl, k⟩
      replace h5 := h5.stay k
      replace hB := k.blk hB (fun h => h)
      clear k
      have c0 := hB.cell 0
      have c1 := hB.cell 1
      have c2 := hB.cell 2
      have c3 := hB.cell 3
      have c4 := hB.cell 4
      have c5 := hB.cell 5
      have c6 := hB.cell 6
      simp at c0 c1 c2 c3 c4 c5 c6
      go_wp2_with fail
      refine (RGood_r ⟨a0, a1, a2, a3, g, n, o⟩ _ true (by simpa using HG.out)).mono ?_
      rintro e w7 ⟨rfl, k⟩
      clear c0 c1 c2 c3 c4 c5 c6
      have hh := h5.stay k
      clear k h5
      go_wp2_with fail
      go_ret
      exact ⟨by simp, hh.below⟩
    · as_aux_lemma =>
      have HG := Lib.hid hg
      clear hg
      go_enter Try.func11, Try.ntmps11
      have hmod := HN.out
      have hB := Blk.new w 44 #[.int .i64 a0, .int .i64 a1, .int .i64 a2, .int .i64 a3, .bool g, .bool n, .bool o]
      have kw := (Keep.refl (fun _ => False) w).alloc (.cells #[.int .i64 a0, .int .i64 a1, .int .i64 a2, .int .i64 a3, .bool g, .bool n, .bool o] 44)
      go_wp2_with fail
      refine (New_at (N : Int) kw (by omega) (by omega)).mono ?_
      rintro e w1 ⟨b, hi, rfl, h, hhi, k⟩
      replace hB := k.blk hB (fun h => h)
      rw [show (w.alloc (.cells #[.int .i64 a0, .int .i64 a1, .int .i64 a2, .int .i64 a3, .bool g, .bool n, .bool o] 44)).heap.size = w.heap.size + 1 from by show (w.heap.push _).size = _; rw [Array.size_push]] at h
      clear kw k hhi
      have hcw : w.heap.size < w1.heap.size := hB.lt
      generalize hws : List.replicate ((N : Int)).toNat (0 : Int) = ws at h HR
      clear hws
      go_wp2_with fail
      refine (Store_at a x h HXX.out 2 ws (by unfold erW; rw [HI.out _ HR.out]; rfl) (by unfold stW; rw [HI.out _ HR.out]; rfl)).mono ?_
      rintro e w2 ⟨rfl, h2, k⟩
      replace hB := k.blk hB (fun h => by first | omega | (obtain ⟨h1, h2⟩ := h; omega))
      clear k
      clear h
      go_wp2_with fail
      refine (Head_at a h2 Hd.zero 2 (by unfold hdAt ldW; rw [HI.out _ HR.out]; exact hdOf_zero) (by unfold hdErr; rw [HI.out _ HR.out]; rfl)).mono ?_
      rintro e w3 ⟨rfl, h3, k⟩
      replace hB := k.blk hB (fun h => by first | omega | (obtain ⟨h1, h2⟩ := h; omega))
      clear k
      clear h2
      simp only [Hd.cells, Hd.zero]
      have kz := (Keep.refl (fun _ => False) w3).alloc (.cells #[.int .i64 0, .int .i64 0, .int .i64 0, .int .i64 0, .bool false, .bool false, .bool false] 44)
      have h4 := h3.stay kz
      replace hB := kz.blk hB (fun h => h)
      clear kz
      have c0 := hB.cell 0
      have c1 := hB.cell 1
      have c2 := hB.cell 2
      have c3 := hB.cell 3
      have c4 := hB.cell 4
      have c5 := hB.cell 5
      have c6 := hB.cell 6
      simp at c0 c1 c2 c3 c4 c5 c6
      go_wp2_with fail
      refine (SetHead_at a ⟨a0, a1, a2, a3, g, n, o⟩ h4 1 ws (by exact if_neg HG.out) (by exact if_neg HG.out)).mono ?_
      rintro e w5 ⟨rfl, h5, k⟩
      clear c0 c1 c2 c3 c4 c5 c6
      replace hB := k.blk hB (fun h => by first | omega | (obtain ⟨h1, h2⟩ := h; omega))
      clear k
      clear h3 h4
      go_wp2_with fail
      refine (awake_calls _).mono ?_
      rintro e w6 ⟨rfl, k⟩
      replace h5 := h5.stay k
      replace hB := k.blk hB (fun h => h)
      clear k
      have c0 := hB.cell 0
      have c1 := hB.cell 1
      have c2 := hB.cell 2
      have c3 := hB.cell 3
      have c4 := hB.cell 4
      have c5 := hB.cell 5
      have c6 := hB.cell 6
      simp at c0 c1 c2 c3 c4 c5 c6
      go_wp2_with fail
      refine (RGood_r ⟨a0, a1, a2, a3, g, n, o⟩ _ false (by simpa using HG.out)).mono ?_
      rintro e w7 ⟨rfl, k⟩
      clear c0 c1 c2 c3 c4 c5 c6
      have hh := h5.stay k
      clear k h5
      go_wp2_with fail
      go_ret
      exact ⟨by simp, hh.below⟩
  · have hin : ∀ l : List Int, l.length = N → inn l a = true := fun l hl => inn_of (by omega) (by omega)
    have HI := Lib.hid hin
    clear hin
    by_cases hx : isHead x
    · have HH := Lib.hid hx
      clear hx
      by_cases hg : Hd.good ⟨a0, a1, a2, a3, g, n, o⟩
      · as_aux_lemma =>
        have HG := Lib.hid hg
        clear hg
        go_enter Try.func11, Try.ntmps11
        have hmod := HN.out
        have hB := Blk.new w 44 #[.int .i64 a0, .int .i64 a1, .int .i64 a2, .int .i64 a3, .bool g, .bool n, .bool o]
        have kw := (Keep.refl (fun _ => False) w).alloc (.cells #[.int .i64 a0, .int .i64 a1, .int .i64 a2, .int .i64 a3, .bool g, .bool n, .bool o] 44)
        go_wp2_with fail
        refine (New_at (N : Int) kw (by omega) (by omega)).mono ?_
        rintro e w1 ⟨b, hi, rfl, h, hhi, k⟩
        replace hB := k.blk hB (fun h => h)
        rw [show (w.alloc (.cells #[.int .i64 a0, .int .i64 a1, .int .i64 a2, .int .i64 a3, .bool g, .bool n, .bool o] 44)).heap.size = w.heap.size + 1 from by show (w.heap.push _).size = _; rw [Array.size_push]] at h
        clear kw k hhi
        have hcw : w.heap.size < w1.heap.size := hB.lt
        generalize hws : List.replicate ((N : Int)).toNat (0 : Int) = ws at h HR
        clear hws
        go_wp2_with fail
        refine (Store_at a x h HXX.out 0 (ws.set a.toNat x) (by unfold erW; rw [HI.out _ HR.out]; rfl) (by unfold stW; rw [HI.out _ HR.out]; rfl)).mono ?_
        rintro e w2 ⟨rfl, h2, k⟩
        replace hB := k.blk hB (fun h => by first | omega | (obtain ⟨h1, h2⟩ := h; omega))
        clear k
        clear h
        have hl2 : (ws.set a.toNat x).length = N := by rw [List.length_set]; exact HR.out
        have hld : ldW (ws.set a.toNat x) a = x := by unfold ldW; rw [HI.out _ hl2, if_pos rfl, List.getElem?_set_self (by rw [HR.out]; omega)]; rfl
        have HL2 := Lib.hid hl2
        have HLD := Lib.hid hld
        clear hl2 hld
        generalize ws.set a.toNat x = ws2 at h2 HL2 HLD
        clear HR
        obtain ⟨K, hK⟩ : ∃ K, rawHd x = K := ⟨_, rfl⟩
        have hKg : K.good := hK ▸ HH.out.1
        have hKw : K.word = x := hK ▸ HH.out.2
        have HKG := Lib.hid hKg
        have HKW := Lib.hid hKw
        clear hK hKg hKw
        go_wp2_with fail
        refine (Head_at a h2 K 0 (head_ok HKG.out (by rw [HLD.out, HKW.out])) (herr_ok HKG.out (HI.out _ HL2.out) (by rw [HLD.out, HKW.out]))).mono ?_
        rintro e w3 ⟨rfl, h3, k⟩
        replace hB := k.blk hB (fun h => by first | omega | (obtain ⟨h1, h2⟩ := h; omega))
        clear k
        clear h2
        obtain ⟨b0, b1, b2, b3, bg, bn, bo⟩ := K
        simp only [Hd.cells]
        have kz := (Keep.refl (fun _ => False) w3).alloc (.cells #[.int .i64 b0, .int .i64 b1, .int .i64 b2, .int .i64 b3, .bool bg, .bool bn, .bool bo] 44)
        have h4 := h3.stay kz
        replace hB := kz.blk hB (fun h => h)
        have hX := Blk.new w3 44 #[.int .i64 b0, .int .i64 b1, .int .i64 b2, .int .i64 b3, .bool bg, .bool bn, .bool bo]
        have hw3 : hi ≤ w3.heap.size := h3.2.2.2
        clear kz h3
        have c0 := hB.cell 0
        have c1 := hB.cell 1
        have c2 := hB.cell 2
        have c3 := hB.cell 3
        have c4 := hB.cell 4
        have c5 := hB.cell 5
        have c6 := hB.cell 6
        simp at c0 c1 c2 c3 c4 c5 c6
        have d0 := hX.cell 0
        have d1 := hX.cell 1
        have d2 := hX.cell 2
        have d3 := hX.cell 3
        have d4 := hX.cell 4
        have d5 := hX.cell 5
        have d6 := hX.cell 6
        simp at d0 d1 d2 d3 d4 d5 d6
        have hxx : (x != x) = false := by simp
        go_wp2_with fail
        refine (RWord_r ⟨b0, b1, b2, b3, bg, bn, bo⟩ _ HKG.out x HKW.out).mono ?_
        rintro e w4 ⟨rfl, k⟩
        clear c0 c1 c2 c3 c4 c5 c6 d0 d1 d2 d3 d4 d5 d6
        replace h4 := h4.stay k
        replace hB := k.blk hB (fun h => h)
        clear k hX
        have hw4 : hi ≤ w4.heap.size := h4.2.2.2
        have c0 := hB.cell 0
        have c1 := hB.cell 1
        have c2 := hB.cell 2
        have c3 := hB.cell 3
        have c4 := hB.cell 4
        have c5 := hB.cell 5
        have c6 := hB.cell 6
        simp at c0 c1 c2 c3 c4 c5 c6
        go_wp2_with fail
        refine (SetHead_at a ⟨a0, a1, a2, a3, g, n, o⟩ h4 0 (ws2.set a.toNat (Hd.word ⟨a0, a1, a2, a3, g, n, o⟩)) (by rw [if_pos HG.out]; unfold erW; rw [HI.out _ HL2.out]; rfl) (by rw [if_pos HG.out]; unfold stW; rw [HI.out _ HL2.out]; rfl)).mono ?_
        rintro e w5 ⟨rfl, h5, k⟩
        clear c0 c1 c2 c3 c4 c5 c6
        replace hB := k.blk hB (fun h => by first | omega | (obtain ⟨h1, h2⟩ := h; omega))
        clear k
        clear h4
        obtain ⟨y, hy⟩ : ∃ y, Hd.word ⟨a0, a1, a2, a3, g, n, o⟩ = y := ⟨_, rfl⟩
        rw [hy] at h5
        have hl3 : (ws2.set a.toNat y).length = N := by rw [List.length_set]; exact HL2.out
        have hld3 : ldW (ws2.set a.toNat y) a = y := by unfold ldW; rw [HI.out _ hl3, if_pos rfl, List.getElem?_set_self (by rw [HL2.out]; omega)]; rfl
        have HL3 := Lib.hid hl3
        have HLD3 := Lib.hid hld3
        have HY := Lib.hid hy
        clear hl3 hld3 hy
        go_wp2_with fail
        refine (Load_at a h5 y 0 HLD3.out (by unfold erW; rw [HI.out _ HL3.out]; rfl)).mono ?_
        rintro e w6 ⟨rfl, h6, k⟩
        replace hB := k.blk hB (fun h => by first | omega | (obtain ⟨h1, h2⟩ := h; omega))
        clear k
        clear h5
        go_wp2_with fail
        refine (awake_calls _).mono ?_
        rintro e w7 ⟨rfl, k⟩
        replace h6 := h6.stay k
        replace hB := k.blk hB (fun h => h)
        clear k
        have c0 := hB.cell 0
        have c1 := hB.cell 1
        have c2 := hB.cell 2
        have c3 := hB.cell 3
        have c4 := hB.cell 4
        have c5 := hB.cell 5
        have c6 := hB.cell 6
        simp at c0 c1 c2 c3 c4 c5 c6
        go_wp2_with fail
        refine (RGood_r ⟨a0, a1, a2, a3, g, n, o⟩ _ true (by simpa using HG.out)).mono ?_
        rintro e w8 ⟨rfl, k⟩
        clear c0 c1 c2 c3 c4 c5 c6
        replace h6 := h6.stay k
        replace hB := k.blk hB (fun h => h)
        clear k
        have c0 := hB.cell 0
        have c1 := hB.cell 1
        have c2 := hB.cell 2
        have c3 := hB.cell 3
        have c4 := hB.cell 4
        have c5 := hB.cell 5
        have c6 := hB.cell 6
        simp at c0 c1 c2 c3 c4 c5 c6
        go_wp2_with fail
        refine (RWord_r ⟨a0, a1, a2, a3, g, n, o⟩ _ HG.out y HY.out).mono ?_
        rintro e w9 ⟨rfl, k⟩
        clear c0 c1 c2 c3 c4 c5 c6
        have hh := h6.stay k
        clear k h6
        go_wp2_with fail
        go_ret
        exact ⟨by simp, hh.below⟩
      · as_aux_lemma =>
        have HG := Lib.hid hg
        clear hg
        go_enter Try.func11, Try.ntmps11
        have hmod := HN.out
        have hB := Blk.new w 44 #[.int .i64 a0, .int .i64 a1, .int .i64 a2, .int .i64 a3, .bool g, .bool n, .bool o]
        have kw := (Keep.refl (fun _ => False) w).alloc (.cells #[.int .i64 a0, .int .i64 a1, .int .i64 a2, .int .i64 a3, .bool g, .bool n, .bool o] 44)
        go_wp2_with fail
        refine (New_at (N : Int) kw (by omega) (by omega)).mono ?_
        rintro e w1 ⟨b, hi, rfl, h, hhi, k⟩
        replace hB := k.blk hB (fun h => h)
        rw [show (w.alloc (.cells #[.int .i64 a0, .int .i64 a1, .int .i64 a2, .int .i64 a3, .bool g, .bool n, .bool o] 44)).heap.size = w.heap.size + 1 from by show (w.heap.push _).size = _; rw [Array.size_push]] at h
        clear kw k hhi
        have hcw : w.heap.size < w1.heap.size := hB.lt
        generalize hws : List.replicate ((N : Int)).toNat (0 : Int) = ws at h HR
        clear hws
        go_wp2_with fail
        refine (Store_at a x h HXX.out 0 (ws.set a.toNat x) (by unfold erW; rw [HI.out _ HR.out]; rfl) (by unfold stW; rw [HI.out _ HR.out]; rfl)).mono ?_
        rintro e w2 ⟨rfl, h2, k⟩
        replace hB := k.blk hB (fun h => by first | omega | (obtain ⟨h1, h2⟩ := h; omega))
        clear k
        clear h
        have hl2 : (ws.set a.toNat x).length = N := by rw [List.length_set]; exact HR.out
        have hld : ldW (ws.set a.toNat x) a = x := by unfold ldW; rw [HI.out _ hl2, if_pos rfl, List.getElem?_set_self (by rw [HR.out]; omega)]; rfl
        have HL2 := Lib.hid hl2
        have HLD := Lib.hid hld
        clear hl2 hld
        generalize ws.set a.toNat x = ws2 at h2 HL2 HLD
        clear HR
        obtain ⟨K, hK⟩ : ∃ K, rawHd x = K := ⟨_, rfl⟩
        have hKg : K.good := hK ▸ HH.out.1
        have hKw : K.word = x := hK ▸ HH.out.2
        have HKG := Lib.hid hKg
        have HKW := Lib.hid hKw
        clear hK hKg hKw
        go_wp2_with fail
        refine (Head_at a h2 K 0 (head_ok HKG.out (by rw [HLD.out, HKW.out])) (herr_ok HKG.out (HI.out _ HL2.out) (by rw [HLD.out, HKW.out]))).mono ?_
        rintro e w3 ⟨rfl, h3, k⟩
        replace hB := k.blk hB (fun h => by first | omega | (obtain ⟨h1, h2⟩ := h; omega))
        clear k
        clear h2
        obtain ⟨b0, b1, b2, b3, bg, bn, bo⟩ := K
        simp only [Hd.cells]
        have kz := (Keep.refl (fun _ => False) w3).alloc (.cells #[.int .i64 b0, .int .i64 b1, .int .i64 b2, .int .i64 b3, .bool bg, .bool bn, .bool bo] 44)
        have h4 := h3.stay kz
        replace hB := kz.blk hB (fun h => h)
        have hX := Blk.new w3 44 #[.int .i64 b0, .int .i64 b1, .int .i64 b2, .int .i64 b3, .bool bg, .bool bn, .bool bo]
        have hw3 : hi ≤ w3.heap.size := h3.2.2.2
        clear kz h3
        have c0 := hB.cell 0
        have c1 := hB.cell 1
        have c2 := hB.cell 2
        have c3 := hB.cell 3
        have c4 := hB.cell 4
        have c5 := hB.cell 5
        have c6 := hB.cell 6
        simp at c0 c1 c2 c3 c4 c5 c6
        have d0 := hX.cell 0
        have d1 := hX.cell 1
        have d2 := hX.cell 2
        have d3 := hX.cell 3
        have d4 := hX.cell 4
        have d5 := hX.cell 5
        have d6 := hX.cell 6
        simp at d0 d1 d2 d3 d4 d5 d6
        have hxx : (x != x) = false := by simp
        go_wp2_with fail
        refine (RWord_r ⟨b0, b1, b2, b3, bg, bn, bo⟩ _ HKG.out x HKW.out).mono ?_
        rintro e w4 ⟨rfl, k⟩
        clear c0 c1 c2 c3 c4 c5 c6 d0 d1 d2 d3 d4 d5 d6
        replace h4 := h4.stay k
        replace hB := k.blk hB (fun h => h)
        clear k hX
        have hw4 : hi ≤ w4.heap.size := h4.2.2.2
        have c0 := hB.cell 0
        have c1 := hB.cell 1
        have c2 := hB.cell 2
        have c3 := hB.cell 3
        have c4 := hB.cell 4
        have c5 := hB.cell 5
        have c6 := hB.cell 6
        simp at c0 c1 c2 c3 c4 c5 c6
        go_wp2_with fail
        refine (SetHead_at a ⟨a0, a1, a2, a3, g, n, o⟩ h4 1 (ws2) (by exact if_neg HG.out) (by exact if_neg HG.out)).mono ?_
        rintro e w5 ⟨rfl, h5, k⟩
        clear c0 c1 c2 c3 c4 c5 c6
        replace hB := k.blk hB (fun h => by first | omega | (obtain ⟨h1, h2⟩ := h; omega))
        clear k
        clear h4
        go_wp2_with fail
        refine (Load_at a h5 x 0 HLD.out (by unfold erW; rw [HI.out _ HL2.out]; rfl)).mono ?_
        rintro e w6 ⟨rfl, h6, k⟩
        replace hB := k.blk hB (fun h => by first | omega | (obtain ⟨h1, h2⟩ := h; omega))
        clear k
        clear h5
        go_wp2_with fail
        refine (awake_calls _).mono ?_
        rintro e w7 ⟨rfl, k⟩
        replace h6 := h6.stay k
        replace hB := k.blk hB (fun h => h)
        clear k
        have c0 := hB.cell 0
        have c1 := hB.cell 1
        have c2 := hB.cell 2
        have c3 := hB.cell 3
        have c4 := hB.cell 4
        have c5 := hB.cell 5
        have c6 := hB.cell 6
        simp at c0 c1 c2 c3 c4 c5 c6
        go_wp2_with fail
        refine (RGood_r ⟨a0, a1, a2, a3, g, n, o⟩ _ false (by simpa using HG.out)).mono ?_
        rintro e w8 ⟨rfl, k⟩
        clear c0 c1 c2 c3 c4 c5 c6
        replace h6 := h6.stay k
        replace hB := k.blk hB (fun h => h)
        clear k
        have c0 := hB.cell 0
        have c1 := hB.cell 1
        have c2 := hB.cell 2
        have c3 := hB.cell 3
        have c4 := hB.cell 4
        have c5 := hB.cell 5
        have c6 := hB.cell 6
        simp at c0 c1 c2 c3 c4 c5 c6
        go_wp2_with fail
        refine (RGood_r ⟨a0, a1, a2, a3, g, n, o⟩ _ false (by simpa using HG.out)).mono ?_
        rintro e w9 ⟨rfl, k⟩
        clear c0 c1 c2 c3 c4 c5 c6
        have hh := h6.stay k
        clear k h6
        go_wp2_with fail
        go_ret
        exact ⟨by simp, hh.below⟩
    · have HH := Lib.hid hx
      clear hx
      by_cases hg : Hd.good ⟨a0, a1, a2, a3, g, n, o⟩
      · as_aux_lemma =>
        have HG := Lib.hid hg
        clear hg
        go_enter Try.func11, Try.ntmps11
        have hmod := HN.out
        have hB := Blk.new w 44 #[.int .i64 a0, .int .i64 a1, .int .i64 a2, .int .i64 a3, .bool g, .bool n, .bool o]
        have kw := (Keep.refl (fun _ => False) w).alloc (.cells #[.int .i64 a0, .int .i64 a1, .int .i64 a2, .int .i64 a3, .bool g, .bool n, .bool o] 44)
        go_wp2_with fail
        refine (New_at (N : Int) kw (by omega) (by omega)).mono ?_
        rintro e w1 ⟨b, hi, rfl, h, hhi, k⟩
        replace hB := k.blk hB (fun h => h)
        rw [show (w.alloc (.cells #[.int .i64 a0, .int .i64 a1, .int .i64 a2, .int .i64 a3, .bool g, .bool n, .bool o] 44)).heap.size = w.heap.size + 1 from by show (w.heap.push _).size = _; rw [Array.size_push]] at h
        clear kw k hhi
        have hcw : w.heap.size < w1.heap.size := hB.lt
        generalize hws : List.replicate ((N : Int)).toNat (0 : Int) = ws at h HR
        clear hws
        go_wp2_with fail
        refine (Store_at a x h HXX.out 0 (ws.set a.toNat x) (by unfold erW; rw [HI.out _ HR.out]; rfl) (by unfold stW; rw [HI.out _ HR.out]; rfl)).mono ?_
        rintro e w2 ⟨rfl, h2, k⟩
        replace hB := k.blk hB (fun h => by first | omega | (obtain ⟨h1, h2⟩ := h; omega))
        clear k
        clear h
        have hl2 : (ws.set a.toNat x).length = N := by rw [List.length_set]; exact HR.out
        have hld : ldW (ws.set a.toNat x) a = x := by unfold ldW; rw [HI.out _ hl2, if_pos rfl, List.getElem?_set_self (by rw [HR.out]; omega)]; rfl
        have HL2 := Lib.hid hl2
        have HLD := Lib.hid hld
        clear hl2 hld
        generalize ws.set a.toNat x = ws2 at h2 HL2 HLD
        clear HR
        go_wp2_with fail
        refine (Head_at a h2 Hd.zero 1 (by unfold hdAt; rw [HLD.out]; exact if_neg HH.out) (by unfold hdErr; rw [HI.out _ HL2.out, if_pos rfl, HLD.out]; exact if_neg HH.out)).mono ?_
        rintro e w3 ⟨rfl, h3, k⟩
        replace hB := k.blk hB (fun h => by first | omega | (obtain ⟨h1, h2⟩ := h; omega))
        clear k
        clear h2
        simp only [Hd.cells, Hd.zero]
        have kz := (Keep.refl (fun _ => False) w3).alloc (.cells #[.int .i64 0, .int .i64 0, .int .i64 0, .int .i64 0, .bool false, .bool false, .bool false] 44)
        have h4 := h3.stay kz
        replace hB := kz.blk hB (fun h => h)
        have hX := Blk.new w3 44 #[.int .i64 0, .int .i64 0, .int .i64 0, .int .i64 0, .bool false, .bool false, .bool false]
        have hw3 : hi ≤ w3.heap.size := h3.2.2.2
        clear kz h3
        have c0 := hB.cell 0
        have c1 := hB.cell 1
        have c2 := hB.cell 2
        have c3 := hB.cell 3
        have c4 := hB.cell 4
        have c5 := hB.cell 5
        have c6 := hB.cell 6
        simp at c0 c1 c2 c3 c4 c5 c6
        have d0 := hX.cell 0
        have d1 := hX.cell 1
        have d2 := hX.cell 2
        have d3 := hX.cell 3
        have d4 := hX.cell 4
        have d5 := hX.cell 5
        have d6 := hX.cell 6
        simp at d0 d1 d2 d3 d4 d5 d6
        clear c0 c1 c2 c3 c4 c5 c6 d0 d1 d2 d3 d4 d5 d6
        have c0 := hB.cell 0
        have c1 := hB.cell 1
        have c2 := hB.cell 2
        have c3 := hB.cell 3
        have c4 := hB.cell 4
        have c5 := hB.cell 5
        have c6 := hB.cell 6
        simp at c0 c1 c2 c3 c4 c5 c6
        go_wp2_with fail
        refine (SetHead_at a ⟨a0, a1, a2, a3, g, n, o⟩ h4 0 (ws2.set a.toNat (Hd.word ⟨a0, a1, a2, a3, g, n, o⟩)) (by rw [if_pos HG.out]; unfold erW; rw [HI.out _ HL2.out]; rfl) (by rw [if_pos HG.out]; unfold stW; rw [HI.out _ HL2.out]; rfl)).mono ?_
        rintro e w5 ⟨rfl, h5, k⟩
        clear c0 c1 c2 c3 c4 c5 c6
        replace hB := k.blk hB (fun h => by first | omega | (obtain ⟨h1, h2⟩ := h; omega))
        clear k
        clear h4
        obtain ⟨y, hy⟩ : ∃ y, Hd.word ⟨a0, a1, a2, a3, g, n, o⟩ = y := ⟨_, rfl⟩
        rw [hy] at h5
        have hl3 : (ws2.set a.toNat y).length = N := by rw [List.length_set]; exact HL2.out
        have hld3 : ldW (ws2.set a.toNat y) a = y := by unfold ldW; rw [HI.out _ hl3, if_pos rfl, List.getElem?_set_self (by rw [HL2.out]; omega)]; rfl
        have HL3 := Lib.hid hl3
        have HLD3 := Lib.hid hld3
        have HY := Lib.hid hy
        clear hl3 hld3 hy
        go_wp2_with fail
        refine (Load_at a h5 y 0 HLD3.out (by unfold erW; rw [HI.out _ HL3.out]; rfl)).mono ?_
        rintro e w6 ⟨rfl, h6, k⟩
        replace hB := k.blk hB (fun h => by first | omega | (obtain ⟨h1, h2⟩ := h; omega))
        clear k
        clear h5
        go_wp2_with fail
        refine (awake_calls _).mono ?_
        rintro e w7 ⟨rfl, k⟩
        replace h6 := h6.stay k
        replace hB := k.blk hB (fun h => h)
        clear k
        have c0 := hB.cell 0
        have c1 := hB.cell 1
        have c2 := hB.cell 2
        have c3 := hB.cell 3
        have c4 := hB.cell 4
        have c5 := hB.cell 5
        have c6 := hB.cell 6
        simp at c0 c1 c2 c3 c4 c5 c6
        go_wp2_with fail
        refine (RGood_r ⟨a0, a1, a2, a3, g, n, o⟩ _ true (by simpa using HG.out)).mono ?_
        rintro e w8 ⟨rfl, k⟩
        clear c0 c1 c2 c3 c4 c5 c6
        replace h6 := h6.stay k
        replace hB := k.blk hB (fun h => h)
        clear k
        have c0 := hB.cell 0
        have c1 := hB.cell 1
        have c2 := hB.cell 2
        have c3 := hB.cell 3
        have c4 := hB.cell 4
        have c5 := hB.cell 5
        have c6 := hB.cell 6
        simp at c0 c1 c2 c3 c4 c5 c6
        go_wp2_with fail
        refine (RWord_r ⟨a0, a1, a2, a3, g, n, o⟩ _ HG.out y HY.out).mono ?_
        rintro e w9 ⟨rfl, k⟩
        clear c0 c1 c2 c3 c4 c5 c6
        have hh := h6.stay k
        clear k h6
        go_wp2_with fail
        go_ret
        exact ⟨by simp, hh.below⟩
      · as_aux_lemma =>
        have HG := Lib.hid hg
        clear hg
        go_enter Try.func11, Try.ntmps11
        have hmod := HN.out
        have hB := Blk.new w 44 #[.int .i64 a0, .int .i64 a1, .int .i64 a2, .int .i64 a3, .bool g, .bool n, .bool o]
        have kw := (Keep.refl (fun _ => False) w).alloc (.cells #[.int .i64 a0, .int .i64 a1, .int .i64 a2, .int .i64 a3, .bool g, .bool n, .bool o] 44)
        go_wp2_with fail
        refine (New_at (N : Int) kw (by omega) (by omega)).mono ?_
        rintro e w1 ⟨b, hi, rfl, h, hhi, k⟩
        replace hB := k.blk hB (fun h => h)
        rw [show (w.alloc (.cells #[.int .i64 a0, .int .i64 a1, .int .i64 a2, .int .i64 a3, .bool g, .bool n, .bool o] 44)).heap.size = w.heap.size + 1 from by show (w.heap.push _).size = _; rw [Array.size_push]] at h
        clear kw k hhi
        have hcw : w.heap.size < w1.heap.size := hB.lt
        generalize hws : List.replicate ((N : Int)).toNat (0 : Int) = ws at h HR
        clear hws
        go_wp2_with fail
        refine (Store_at a x h HXX.out 0 (ws.set a.toNat x) (by unfold erW; rw [HI.out _ HR.out]; rfl) (by unfold stW; rw [HI.out _ HR.out]; rfl)).mono ?_
        rintro e w2 ⟨rfl, h2, k⟩
        replace hB := k.blk hB (fun h => by first | omega | (obtain ⟨h1, h2⟩ := h; omega))
        clear k
        clear h
        have hl2 : (ws.set a.toNat x).length = N := by rw [List.length_set]; exact HR.out
        have hld : ldW (ws.set a.toNat x) a = x := by unfold ldW; rw [HI.out _ hl2, if_pos rfl, List.getElem?_set_self (by rw [HR.out]; omega)]; rfl
        have HL2 := Lib.hid hl2
        have HLD := Lib.hid hld
        clear hl2 hld
        generalize ws.set a.toNat x = ws2 at h2 HL2 HLD
        clear HR
        go_wp2_with fail
        refine (Head_at a h2 Hd.zero 1 (by unfold hdAt; rw [HLD.out]; exact if_neg HH.out) (by unfold hdErr; rw [HI.out _ HL2.out, if_pos rfl, HLD.out]; exact if_neg HH.out)).mono ?_
        rintro e w3 ⟨rfl, h3, k⟩
        replace hB := k.blk hB (fun h => by first | omega | (obtain ⟨h1, h2⟩ := h; omega))
        clear k
        clear h2
        simp only [Hd.cells, Hd.zero]
        have kz := (Keep.refl (fun _ => False) w3).alloc (.cells #[.int .i64 0, .int .i64 0, .int .i64 0, .int .i64 0, .bool false, .bool false, .bool false] 44)
        have h4 := h3.stay kz
        replace hB := kz.blk hB (fun h => h)
        have hX := Blk.new w3 44 #[.int .i64 0, .int .i64 0, .int .i64 0, .int .i64 0, .bool false, .bool false, .bool false]
        have hw3 : hi ≤ w3.heap.size := h3.2.2.2
        clear kz h3
        have c0 := hB.cell 0
        have c1 := hB.cell 1
        have c2 := hB.cell 2
        have c3 := hB.cell 3
        have c4 := hB.cell 4
        have c5 := hB.cell 5
        have c6 := hB.cell 6
        simp at c0 c1 c2 c3 c4 c5 c6
        have d0 := hX.cell 0
        have d1 := hX.cell 1
        have d2 := hX.cell 2
        have d3 := hX.cell 3
        have d4 := hX.cell 4
        have d5 := hX.cell 5
        have d6 := hX.cell 6
        simp at d0 d1 d2 d3 d4 d5 d6
        clear c0 c1 c2 c3 c4 c5 c6 d0 d1 d2 d3 d4 d5 d6
        have c0 := hB.cell 0
        have c1 := hB.cell 1
        have c2 := hB.cell 2
        have c3 := hB.cell 3
        have c4 := hB.cell 4
        have c5 := hB.cell 5
        have c6 := hB.cell 6
        simp at c0 c1 c2 c3 c4 c5 c6
        go_wp2_with fail
        refine (SetHead_at a ⟨a0, a1, a2, a3, g, n, o⟩ h4 1 (ws2) (by exact if_neg HG.out) (by exact if_neg HG.out)).mono ?_
        rintro e w5 ⟨rfl, h5, k⟩
        clear c0 c1 c2 c3 c4 c5 c6
        replace hB := k.blk hB (fun h => by first | omega | (obtain ⟨h1, h2⟩ := h; omega))
        clear k
        clear h4
        go_wp2_with fail
        refine (Load_at a h5 x 0 HLD.out (by unfold erW; rw [HI.out _ HL2.out]; rfl)).mono ?_
        rintro e w6 ⟨rfl, h6, k⟩
        replace hB := k.blk hB (fun h => by first | omega | (obtain ⟨h1, h2⟩ := h; omega))
        clear k
        clear h5
        go_wp2_with fail
        refine (awake_calls _).mono ?_
        rintro e w7 ⟨rfl, k⟩
        replace h6 := h6.stay k
        replace hB := k.blk hB (fun h => h)
        clear k
        have c0 := hB.cell 0
        have c1 := hB.cell 1
        have c2 := hB.cell 2
        have c3 := hB.cell 3
        have c4 := hB.cell 4
        have c5 := hB.cell 5
        have c6 := hB.cell 6
        simp at c0 c1 c2 c3 c4 c5 c6
        go_wp2_with fail
        refine (RGood_r ⟨a0, a1, a2, a3, g, n, o⟩ _ false (by simpa using HG.out)).mono ?_
        rintro e w8 ⟨rfl, k⟩
        clear c0 c1 c2 c3 c4 c5 c6
        replace h6 := h6.stay k
        replace hB := k.blk hB (fun h => h)
        clear k
        have c0 := hB.cell 0
        have c1 := hB.cell 1
        have c2 := hB.cell 2
        have c3 := hB.cell 3
        have c4 := hB.cell 4
        have c5 := hB.cell 5
        have c6 := hB.cell 6
        simp at c0 c1 c2 c3 c4 c5 c6
        go_wp2_with fail
        refine (RGood_r ⟨a0, a1, a2, a3, g, n, o⟩ _ false (by simpa using HG.out)).mono ?_
        rintro e w9 ⟨rfl, k⟩
        clear c0 c1 c2 c3 c4 c5 c6
        have hh := h6.stay k
        clear k h6
        go_wp2_with fail
        go_ret
        exact ⟨by simp, hh.below⟩
end Go.Proofs.Ytfaffpmmjlddeaa.Ob
