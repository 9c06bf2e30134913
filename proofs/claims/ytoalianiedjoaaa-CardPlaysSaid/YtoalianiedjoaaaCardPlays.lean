/- CardPlays as a contract. Condition: the list reads as a list. -/
import Derived.Test.YtoalianiedjoaaaCardPages
import Derived.Test.YtoalianiedjoaaaStructs
import Derived.Deep.DeepCutAuto
import Derived.Deep.CutBlock
import Derived.Deep.LoopGhost
set_option linter.unusedVariables false
set_option linter.unusedSimpArgs false
namespace Go.Proofs.Ytoalianiedjoaaa.Cd
open Go.RowKit Go.Proofs.Ytoalianiedjoaaa.W Go.Proofs.Ytoalianiedjoaaa.Sm

theorem fst_none {m : List Bool} {K k : Nat} (h : IsFirst (m.take k) K none) (hk : k < m.length) (hv : m[k]?.getD false = false ∨ k < K) : IsFirst (m.take (k + 1)) K none := by
  intro j hj
  rcases Nat.lt_trichotomy j k with hl | rfl | hl
  · have := h j hj
    rw [List.getElem?_take, if_pos (by omega)] at this ⊢
    exact this
  · rw [List.getElem?_take, if_pos (by omega)]
    rcases hv with h | h
    · exact h
    · omega
  · rw [List.getElem?_take, if_neg (by omega)]; rfl
theorem fst_new {m : List Bool} {K k : Nat} (h : IsFirst (m.take k) K none) (hk : k < m.length) (hv : m[k]?.getD false = true) (hK : K ≤ k) : IsFirst (m.take (k + 1)) K (some k) := by
  refine ⟨hK, by rw [List.length_take]; omega, by rw [List.getElem?_take, if_pos (by omega)]; exact hv, fun j h1 h2 => ?_⟩
  have := h j h1
  rw [List.getElem?_take, if_pos h2] at this
  rw [List.getElem?_take, if_pos (by omega)]
  exact this
theorem fst_some {m : List Bool} {K k r : Nat} (h : IsFirst (m.take k) K (some r)) : IsFirst (m.take (k + 1)) K (some r) := by
  obtain ⟨h1, h2, h3, h4⟩ := h
  rw [List.length_take] at h2
  refine ⟨h1, by rw [List.length_take]; omega, ?_, fun j a b => ?_⟩
  · rw [List.getElem?_take, if_pos (by omega)] at h3 ⊢; exact h3
  · have := h4 j a b
    rw [List.getElem?_take, if_pos (by omega)] at this ⊢; exact this
theorem cnt_next {m : List Bool} {k : Nat} (hk : k < m.length) (v : Bool) (hv : m[k]?.getD false = v) : (m.take (k + 1)).count true = (m.take k).count true + (if v = true then 1 else 0) := by
  subst hv
  rw [List.take_add_one, List.count_append]
  simp [List.getElem?_eq_getElem hk]
  cases m[k] <;> simp

set_option maxHeartbeats 8000000 in
set_option maxRecDepth 100000 in
theorem Plays_calls {v1 : Value} {l1 : List A2} (a0 a1 a2 : Int) (w : World) (g1 : SS w (fun i => i < w.heap.size) A2.cells 2 v1 l1) (q1 : ∀ x ∈ l1, A2.wf x) :
    Calls Try.prog 8 #[.int .i64 a0, .int .i64 a1, .int .i64 a2, v1] w fun e w' => e = .returned (.bool true) ∧ Below w.heap.size w w' := by
  obtain ⟨A1, c1, rfl, hm1, hc1⟩ := g1
  have HC1 := Lib.hid hc1
  have Q1 := Lib.hid q1
  clear hc1 q1
  obtain ⟨i, hi, hz, hs, hby⟩ := info_parts info_bool
  have bf : 0 ≤ clampN a0 ∧ clampN a0 ≤ 1048576 := by unfold clampN; (repeat' split) <;> omega
  have bw : 0 ≤ clampN a1 ∧ clampN a1 ≤ 1048576 := by unfold clampN; (repeat' split) <;> omega
  have bc : 1 ≤ clamp1 a2 ∧ clamp1 a2 ≤ 1048576 := by unfold clamp1; (repeat' split) <;> omega
  obtain ⟨bf0, bf1⟩ := bf
  obtain ⟨bw0, bw1⟩ := bw
  obtain ⟨bc0, bc1⟩ := bc
  go_enter Try.func8, Try.ntmps8
  go_wp2_with fail
  refine (Cut_calls a0 0 1048576 w).mono ?_
  rintro e w2 ⟨rfl, rfl⟩
  rw [show cut a0 0 1048576 = clampN a0 from rfl]
  go_wp2_with fail
  refine (Cut_calls a1 0 1048576 w).mono ?_
  rintro e w2 ⟨rfl, rfl⟩
  rw [show cut a1 0 1048576 = clampN a1 from rfl]
  go_wp2_with fail
  refine (Cut_calls a2 1 1048576 w).mono ?_
  rintro e w2 ⟨rfl, rfl⟩
  rw [show cut a2 1 1048576 = clamp1 a2 from rfl]
  have hNew := New_sep a0 a1 a2 (Sep.nil w)
  generalize clampN a0 = f at bf0 bf1 hNew ⊢
  generalize clampN a1 = n at bw0 bw1 hNew ⊢
  generalize clamp1 a2 = c at bc0 bc1 hNew ⊢
  have HNew := Lib.hid hNew
  clear hNew
  have d0 := Int.ediv_nonneg bw0 (by omega : 0 ≤ c)
  have d1 := Int.ediv_le_self c bw0
  have hq := IntWalk.i64_quo n c (by omega)
  have hc0 : (c == 0) = false := by simp; omega
  have hc1 : ¬ c = 0 := by omega
  by_cases hbig : 2000 < n / c
  · go_wp2_with fail
    refine (awake_sep (Sep.nil w)).mono ?_
    rintro e w6 ⟨rfl, h6⟩
    go_wp2_with fail
    go_ret
    exact ⟨rfl, h6.below⟩
  have hnum : Cd.num n c ≤ 2001 := by
    unfold Cd.num
    split <;> omega
  have hnum0 := (num_b (w := n) (c := c) bw0 bc0).1
  go_wp2_with fail
  refine HNew.out.mono ?_
  rintro e w1 ⟨b, rfl, h1⟩
  go_wp2_with fail
  refine (Pages_calls c n w1 bc0 bw0 bw1).mono ?_
  rintro e w2 ⟨rfl, rfl⟩
  obtain ⟨D, hD⟩ : ∃ D : Nat, Cd.num n c = (D : Int) := ⟨(Cd.num n c).toNat, by omega⟩
  rw [hD] at hnum h1 ⊢
  rw [Int.toNat_natCast] at h1
  clear hnum0 hq
  have HD := Lib.hid hD
  clear hD
  have hmk : ∀ W : World, (Instr.makeSlice 45 (.int .i64 (D : Int)) (.int .i64 (D : Int))).run Try.prog W = .ok (.slice (some ⟨W.heap.size, 0, none⟩) D D) (W.alloc (.cells (bools (List.replicate D false)) 4)) := fun W => by
    have h := run_make_rowN 45 4 i (.bool false) Try.underlying45 hi hz .i64 .i64 D D (Nat.le_refl _) (by rw [hby]; omega) (by omega) W
    rw [h, hs]
    have : madeCells (Value.bool false).cells (D * 1) = bools (List.replicate D false) := by
      apply Array.ext
      · simp [madeCells, bools]
      · intro k h1 h2; simp [madeCells, bools, Value.cells, Nat.mod_one]
    rw [this]
  have h2 := h1.new_blk 4 (bools (List.replicate D false))
  obtain ⟨G, hG⟩ : ∃ G, w1.heap.size = G := ⟨_, rfl⟩
  rw [hG] at h2
  simp only [List.cons_append, List.nil_append] at h2
  have HG := Lib.hid hG
  clear hG h1 hi hz hs hby
  go_wp2_with fail
  rw [HG.out]
  generalize w1.alloc (.cells (bools (List.replicate D false)) 4) = w2 at h2 ⊢
  clear HG hmk
  go_loopg [14] 60 (fun gk i wr => ∃ (k : Nat) (m : List Bool), k + gk = 60 ∧ i = .int .i64 k ∧ m.length = D ∧ Sep w wr [Crd b ⟨f, n, c, m⟩, blkP G 4 (bools m)])
  case atStart => exact ⟨0, _, rfl, rfl, by simp, h2⟩
  case round =>
    clear h2
    obtain ⟨k, m, hk, rfl, hmD, h⟩ := hrel
    have HMD := Lib.hid hmD
    clear hmD
    by_cases hc : k < l1.length ∧ k < 60
    · obtain ⟨hl1, hl2⟩ := hc
      obtain ⟨b1, o1, rfl, hb1, hlt1, hcell1⟩ := HC1.out (by omega)
      obtain ⟨⟨wh, N⟩, hx⟩ : ∃ x, l1[k]? = some x := ⟨l1[k], List.getElem?_eq_getElem hl1⟩
      have hwf := Q1.out _ (List.mem_of_getElem? hx)
      obtain ⟨⟨wa, wb⟩, ⟨na, nb⟩⟩ := hwf
      simp only [] at wa wb na nb
      have d0 : wr.cell? ⟨b1, o1 + k * 2, none⟩ = some (.int .i64 wh) := (World.cell?_of_block (h.block b1 hlt1)).trans (hcell1 k _ hx 0 _ rfl)
      have d1 : wr.cell? ⟨b1, o1 + k * 2 + 1, none⟩ = some (.int .i64 N) := (World.cell?_of_block (h.block b1 hlt1)).trans (hcell1 k _ hx 1 _ rfl)
      clear hcell1 hx
      have h0 := h.new_blk 47 #[.int .i64 wh, .int .i64 N]
      obtain ⟨X, hX⟩ : ∃ X, wr.heap.size = X := ⟨_, rfl⟩
      rw [hX] at h0
      simp only [List.cons_append, List.nil_append] at h0
      go_upto_region 10 with fail
      have hXw : wr.heap.size = X := hX
      generalize wr.alloc (.cells #[.int .i64 wh, .int .i64 N] 47) = w3 at h0 ⊢
      clear hX hXw d0 d1 h
      obtain ⟨inb, hin⟩ : ∃ r : Bool, decide (f ≤ N ∧ N < f + n) = r := ⟨_, rfl⟩
      have HIN := Lib.hid hin
      clear hin
      go_cut [16] (fun v wx => v = .bool inb ∧ wx = w3)
      case first =>
        have x1 := (h0.blk 2 rfl).cell 1
        simp at x1
        rcases (by omega : (f ≤ N ∧ N < f + n) ∨ N < f ∨ (f ≤ N ∧ f + n ≤ N)) with ⟨hx, hy⟩ | hx | ⟨hx, hy⟩
        · have hi : inb = true := by rw [← HIN.out]; simp; omega
          subst hi
          have e1 : decide (f ≤ N) = true := by simpa using hx
          have e2 : decide (N < f + n) = true := by simpa using hy
          go_wp2_with fail
          go_meet
          exact ⟨rfl, rfl⟩
        · have hi : inb = false := by rw [← HIN.out]; simp; omega
          subst hi
          have e1 : decide (f ≤ N) = false := by simpa using hx
          go_wp2_with fail
          go_meet
          exact ⟨rfl, rfl⟩
        · have hi : inb = false := by rw [← HIN.out]; simp; omega
          subst hi
          have e1 : decide (f ≤ N) = true := by simpa using hx
          have e2 : decide (N < f + n) = false := by simpa using hy
          go_wp2_with fail
          go_meet
          exact ⟨rfl, rfl⟩
      case rest =>
      obtain ⟨rfl, rfl⟩ := hcut
      have x0 := (h0.blk 2 rfl).cell 0
      simp at x0
      go_upto_block 2 with fail
      clear x0
      go_cut [] (fun wx => ∃ (m : List Bool), m.length = D ∧ Sep w wx [Crd b ⟨f, n, c, m⟩, blkP G 4 (bools m), blkP X 47 #[.int .i64 wh, .int .i64 N]])
      case first =>
        have hGl := h0.blk_lt 1 rfl
        have x1 := (h0.blk 2 rfl).cell 1
        simp at x1
        by_cases hw0 : wh = 0
        · subst hw0
          cases inb
          · as_aux_lemma =>
            have ho : ¬ (f ≤ N ∧ N < f + n) := by simpa using HIN.out
            have hof := of_out (c := c) (m := m) ho
            have HO := Lib.hid hof
            clear ho hof
            go_wp2_with fail
            refine (Mark_sep N h0 0 rfl nb).mono ?_
            rintro e w4 ⟨rfl, h4⟩
            rw [HO.out, if_neg (by omega)] at h4
            rw [HO.out, show decide ((0 : Int) ≤ -1) = false from by decide]
            go_wp2_with fail
            go_meet
            exact ⟨m, HMD.out, h4⟩
          · as_aux_lemma =>
            have ho : f ≤ N ∧ N < f + n := by simpa using HIN.out
            obtain ⟨ho1, ho2⟩ := ho
            have hof := of_in (c := c) (m := m) ho1 ho2
            have hjb := num_lt (w := n) (c := c) (x := N - f) bc0 (by omega) (by omega)
            rw [HD.out] at hjb
            obtain ⟨j, hj⟩ : ∃ j : Nat, (N - f) / c = (j : Int) := ⟨((N - f) / c).toNat, by omega⟩
            have hjD : j < D := by omega
            rw [hj] at hof
            have HO := Lib.hid hof
            have e1 := IntWalk.i64_in (N - f) (by omega)
            have e2 := IntWalk.i64_quo (N - f) c (by omega)
            rw [hj] at e2
            clear hof hjb
            go_wp2_with fail
            refine (Mark_sep N h0 0 rfl nb).mono ?_
            rintro e w4 ⟨rfl, h4⟩
            rw [HO.out, if_pos (by omega), Int.toNat_natCast] at h4
            rw [HO.out, show decide ((0 : Int) ≤ (j : Int)) = true from by simp]
            replace h4 : Sep w w4 [Crd b ⟨f, n, c, m.set j true⟩, blkP G 4 (bools m), blkP X 47 #[.int .i64 0, .int .i64 N]] := h4
            have y1 := (h4.blk 2 rfl).cell 1
            simp at y1
            have y2 : w4.cell? ⟨G, j, none⟩ = some (.bool (m[j]?.getD false)) := by rw [(h4.blk 1 rfl).cell, bools_get (by rw [HMD.out]; exact hjD)]
            have z2 := (h4.blk 1 rfl).frozen j
            have h5 := h4.set_blk 1 rfl j (.bool true)
            rw [bools_set] at h5
            clear x1
            go_wp2_with fail
            go_meet
            exact ⟨m.set j true, by rw [List.length_set, HMD.out], h5⟩
        · by_cases hw1 : wh = 1
          · subst hw1
            have e0 : decide (N < (D : Int)) = decide (N < (m.length : Int)) := by rw [HMD.out]
            rcases (by omega : N < 0 ∨ (0 ≤ N ∧ (D : Int) ≤ N) ∨ (0 ≤ N ∧ N < (D : Int))) with hx | ⟨hx, hy⟩ | ⟨hx, hy⟩
            · as_aux_lemma =>
              have hmk : Cd.isMark ⟨f, n, c, m⟩ N = false := if_neg (by omega)
              have HM := Lib.hid hmk
              have e1 : decide (0 ≤ N) = false := by simpa using hx
              clear hmk e0
              go_wp2_with fail
              refine (Clear_sep N h0 0 rfl).mono ?_
              rintro e w4 ⟨rfl, h4⟩
              rw [HM.out, if_neg (by simp)] at h4
              rw [HM.out]
              go_wp2_with fail
              go_meet
              exact ⟨m, HMD.out, h4⟩
            · as_aux_lemma =>
              have hmk : Cd.isMark ⟨f, n, c, m⟩ N = false := by unfold Cd.isMark; rw [if_pos hx, List.getElem?_eq_none (by rw [HMD.out]; omega)]; rfl
              have HM := Lib.hid hmk
              have e1 : decide (0 ≤ N) = true := by simpa using hx
              have e2 : decide (N < (D : Int)) = false := by simpa using hy
              clear hmk e0
              go_wp2_with fail
              refine (Clear_sep N h0 0 rfl).mono ?_
              rintro e w4 ⟨rfl, h4⟩
              rw [HM.out, if_neg (by simp)] at h4
              rw [HM.out]
              go_wp2_with fail
              go_meet
              exact ⟨m, HMD.out, h4⟩
            · as_aux_lemma =>
              obtain ⟨j, rfl⟩ : ∃ j : Nat, N = (j : Int) := ⟨N.toNat, by omega⟩
              have hjD : j < D := by omega
              have y2 := (h0.blk 1 rfl).cell j
              rw [bools_get (by rw [HMD.out]; exact hjD)] at y2
              have hmk : Cd.isMark ⟨f, n, c, m⟩ (j : Int) = m[j]?.getD false := by unfold Cd.isMark; rw [if_pos hx, Int.toNat_natCast]
              have e1 : decide (0 ≤ (j : Int)) = true := by simp
              have e2 : decide ((j : Int) < (D : Int)) = true := by simpa using hy
              have e3 : decide (j < D) = true := by simpa using hjD
              clear e0
              cases hv : m[j]?.getD false
              · rw [hv] at y2 hmk
                have HM := Lib.hid hmk
                clear hv hmk
                go_wp2_with fail
                refine (Clear_sep j h0 0 rfl).mono ?_
                rintro e w4 ⟨rfl, h4⟩
                rw [HM.out, if_neg (by simp)] at h4
                rw [HM.out]
                go_wp2_with fail
                go_meet
                exact ⟨m, HMD.out, h4⟩
              · rw [hv] at y2 hmk
                have HM := Lib.hid hmk
                clear hv hmk
                go_wp2_with fail
                refine (Clear_sep j h0 0 rfl).mono ?_
                rintro e w4 ⟨rfl, h4⟩
                rw [HM.out, if_pos rfl, Int.toNat_natCast] at h4
                rw [HM.out]
                replace h4 : Sep w w4 [Crd b ⟨f, n, c, m.set j false⟩, blkP G 4 (bools m), blkP X 47 #[.int .i64 1, .int .i64 j]] := h4
                have y1 := (h4.blk 2 rfl).cell 1
                simp at y1
                have y3 : w4.cell? ⟨G, j, none⟩ = some (.bool (m[j]?.getD false)) := by rw [(h4.blk 1 rfl).cell, bools_get (by rw [HMD.out]; exact hjD)]
                have z2 := (h4.blk 1 rfl).frozen j
                have h5 := h4.set_blk 1 rfl j (.bool false)
                rw [bools_set] at h5
                clear x1 y2
                go_wp2_with fail
                go_meet
                exact ⟨m.set j false, by rw [List.length_set, HMD.out], h5⟩
          · as_aux_lemma =>
            have g0 : (wh == 0) = false := by simpa using hw0
            have g1 : (wh == 1) = false := by simpa using hw1
            go_wp2_with fail
            go_meet
            exact ⟨m, HMD.out, h0⟩
      case rest =>
        obtain ⟨m2, hm2, h4⟩ := hcut
        clear HMD h0 m
        have HMD := Lib.hid hm2
        clear hm2
        have hKn : ∃ K : Nat, N.toNat = K := ⟨_, rfl⟩
        obtain ⟨K, hK⟩ := hKn
        have HK := Lib.hid hK
        clear hK
        go_wp2_with fail
        obtain ⟨gz, rfl⟩ : ∃ x, x = gk := ⟨_, rfl⟩
        go_loopg [18, 19, 20, 21] D (fun gj fi ok ct q wx => ∃ (j : Nat) (r : Option Nat), j + gj = D ∧ q = .int .i64 j ∧ fi = .int .i64 (fstO r) ∧ ok = .bool r.isSome ∧ ct = .int .i64 ((m2.take j).count true) ∧ IsFirst (m2.take j) K r ∧ wx = wc)
        case atStart => exact ⟨0, none, by omega, rfl, rfl, rfl, by simp, by intro a b; simp, rfl⟩
        case round =>
          obtain ⟨j, r, hj, rfl, rfl, rfl, rfl, hfst, hw⟩ := hrel
          have HF := Lib.hid hfst
          have HW := Lib.hid hw
          have x1 := (h4.blk 2 rfl).cell 1
          simp at x1
          rw [← hw] at h4 x1
          clear hfst hw
          by_cases hjD : j < D
          · have y2 := (h4.blk 1 rfl).cell j
            rw [bools_get (by rw [HMD.out]; exact hjD)] at y2
            have hcn := cnt_next (m := m2) (k := j) (by rw [HMD.out]; exact hjD) _ rfl
            have hcb : (m2.take j).count true ≤ j := Nat.le_trans (List.count_le_length) (by rw [List.length_take]; omega)
            cases hv : m2[j]?.getD false
            · rw [hv] at y2 hcn
              have HC := Lib.hid hcn
              have HV := Lib.hid hv
              generalize (m2.take j).count true = ct at hcb HC ⊢
              clear hv hcn
              go_wp2_with fail
              go_roundg (gk - 1)
              case measure => omega
              case rel =>
                refine ⟨j + 1, r, by omega, by go_num, rfl, rfl, by rw [HC.out]; simp, ?_, HW.out⟩
                cases r with
                | none => exact fst_none HF.out (by rw [HMD.out]; exact hjD) (.inl HV.out)
                | some _ => exact fst_some HF.out
            · rw [hv] at y2 hcn
              have HC := Lib.hid hcn
              have HV := Lib.hid hv
              generalize (m2.take j).count true = ct at hcb HC ⊢
              clear hv hcn
              by_cases hNj : N ≤ (j : Int)
              · have e1 : decide (N ≤ (j : Int)) = true := by simpa using hNj
                have hKj : K ≤ j := by rw [← HK.out]; omega
                cases r with
                | none =>
                  simp only [Option.isSome]
                  go_wp2_with fail
                  go_roundg (gk - 1)
                  case measure => omega
                  case rel => exact ⟨j + 1, some j, by omega, by go_num, rfl, rfl, by rw [HC.out]; simp, fst_new HF.out (by rw [HMD.out]; exact hjD) HV.out hKj, HW.out⟩
                | some r0 =>
                  simp only [Option.isSome]
                  go_wp2_with fail
                  go_roundg (gk - 1)
                  case measure => omega
                  case rel => exact ⟨j + 1, some r0, by omega, by go_num, rfl, rfl, by rw [HC.out]; simp, fst_some HF.out, HW.out⟩
              · have e1 : decide (N ≤ (j : Int)) = false := by simpa using hNj
                have hKj : j < K := by rw [← HK.out]; omega
                go_wp2_with fail
                go_roundg (gk - 1)
                case measure => omega
                case rel =>
                  refine ⟨j + 1, r, by omega, by go_num, rfl, rfl, by rw [HC.out]; simp, ?_, HW.out⟩
                  cases r with
                  | none => exact fst_none HF.out (by rw [HMD.out]; exact hjD) (.inr hKj)
                  | some _ => exact fst_some HF.out
          · have hjD' : j = D := by omega
            have hfst := HF.out
            rw [hjD', List.take_of_length_le (by rw [HMD.out]; exact Nat.le_refl _)] at hfst
            rw [hjD', List.take_of_length_le (by rw [HMD.out]; exact Nat.le_refl _)]
            have HF' := Lib.hid hfst
            clear hfst HF hjD' hjD hj HW
            clear j
            go_wp2_with fail
            refine (First_sep N h4 0 rfl).mono ?_
            rintro e w5 ⟨r2, hf2, rfl, rfl⟩
            have hrr : r2 = r := by
              rw [HK.out] at hf2
              exact hf2.unique HF'.out
            subst hrr
            clear hf2
            have q1 : (fstO r2 != fstO r2) = false := by simp
            have q2 : (r2.isSome != r2.isSome) = false := by simp
            generalize fstO r2 = fo at q1 ⊢
            generalize r2.isSome = so at q2 ⊢
            clear HF'
            go_upto_region 32 with fail
            have hct := Count_sep h4 0 rfl
            simp only [] at hct
            generalize ((m2.count true : Nat) : Int) = ctt at hct ⊢
            have HCT := Lib.hid hct
            clear hct
            go_cut [182] (fun v wx => v = .bool false ∧ Sep w wx [Crd b ⟨f, n, c, m2⟩, blkP G 4 (bools m2), blkP X 47 #[.int .i64 wh, .int .i64 N]])
            case first =>
              as_aux_lemma =>
              go_wp2_with fail
              refine HCT.out.mono ?_
              rintro e w5 ⟨rfl, rfl⟩
              have q3 : (ctt != ctt) = false := by simp
              go_wp2_with fail
              refine (Marked_sep N h4 0 rfl nb).mono ?_
              rintro e w6 ⟨rfl, h6⟩
              have x6 := (h6.blk 2 rfl).cell 1
              simp at x6
              cases inb
              · have ho : ¬ (f ≤ N ∧ N < f + n) := by simpa using HIN.out
                have hof : Cd.marked ⟨f, n, c, m2⟩ N = false := by unfold Cd.marked; rw [of_out (c := c) (m := m2) ho]; rfl
                rw [hof]
                clear hof ho x1 h4
                go_wp2_with fail
                go_meet
                exact ⟨rfl, h6⟩
              · have ho : f ≤ N ∧ N < f + n := by simpa using HIN.out
                obtain ⟨ho1, ho2⟩ := ho
                have hof := of_in (c := c) (m := m2) ho1 ho2
                have hjb := num_lt (w := n) (c := c) (x := N - f) bc0 (by omega) (by omega)
                rw [HD.out] at hjb
                obtain ⟨j, hj⟩ : ∃ j : Nat, (N - f) / c = (j : Int) := ⟨((N - f) / c).toNat, by omega⟩
                have hjD : j < D := by omega
                rw [hj] at hof
                have hmk : Cd.marked ⟨f, n, c, m2⟩ N = m2[j]?.getD false := by unfold Cd.marked; rw [hof, if_pos (by omega), Int.toNat_natCast]
                rw [hmk]
                have e1 := IntWalk.i64_in (N - f) (by omega)
                have e2 := IntWalk.i64_quo (N - f) c (by omega)
                rw [hj] at e2
                have y6 := (h6.blk 1 rfl).cell j
                rw [bools_get (by rw [HMD.out]; exact hjD)] at y6
                generalize m2[j]?.getD false = v at y6 ⊢
                have q4 : (v != v) = false := by simp
                clear hof hmk hjb x1 h4
                go_wp2_with fail
                go_meet
                exact ⟨rfl, h6⟩
            case rest =>
              clear h4 q1 q2
              obtain ⟨rfl, h4⟩ := hcut
              have x7 := (h4.blk 2 rfl).cell 1
              simp at x7
              go_wp2_with fail
              refine (Part_sep N h4 0 rfl).mono ?_
              rintro e w6 ⟨rfl, h6⟩
              have x6 := (h6.blk 2 rfl).cell 1
              simp at x6
              clear h4 x1 x7
              rcases (by omega : N < 0 ∨ (0 ≤ N ∧ (D : Int) ≤ N) ∨ (0 ≤ N ∧ N < (D : Int))) with hx | ⟨hx, hy⟩ | ⟨hx, hy⟩
              · as_aux_lemma =>
                have e1 : decide (0 ≤ N) = false := by simpa using hx
                rw [show (Cd.part ⟨f, n, c, m2⟩ N).1 = 0 from by unfold Cd.part; rw [if_neg (by simp; omega)], show (Cd.part ⟨f, n, c, m2⟩ N).2 = 0 from by unfold Cd.part; rw [if_neg (by simp; omega)]]
                go_wp2_with fail
                go_roundg (gz - 1)
                case measure => omega
                case rel => exact ⟨k + 1, m2, by omega, by go_num, HMD.out, h6.first (l := [_, _])⟩
              · as_aux_lemma =>
                have e1 : decide (0 ≤ N) = true := by simpa using hx
                have e2 : decide (N < (D : Int)) = false := by simpa using hy
                rw [show (Cd.part ⟨f, n, c, m2⟩ N).1 = 0 from by unfold Cd.part; rw [if_neg (by simp; rw [HMD.out]; omega)], show (Cd.part ⟨f, n, c, m2⟩ N).2 = 0 from by unfold Cd.part; rw [if_neg (by simp; rw [HMD.out]; omega)]]
                go_wp2_with fail
                go_roundg (gz - 1)
                case measure => omega
                case rel => exact ⟨k + 1, m2, by omega, by go_num, HMD.out, h6.first (l := [_, _])⟩
              · as_aux_lemma =>
                have e1 : decide (0 ≤ N) = true := by simpa using hx
                have e2 : decide (N < (D : Int)) = true := by simpa using hy
                have hpb := part_b (s := ⟨f, n, c, m2⟩) (Crd_ok h6 0 rfl) (k := N) hx (by simp only []; rw [HMD.out]; exact hy)
                simp only [] at hpb
                obtain ⟨p0, p1, p2⟩ := hpb
                have hp1 : (Cd.part ⟨f, n, c, m2⟩ N).1 = f + N * c := by unfold Cd.part; rw [if_pos (by simp only []; rw [HMD.out]; omega)]
                have hp2 : (Cd.part ⟨f, n, c, m2⟩ N).2 = f + (if n < N * c + c then n else N * c + c) := by unfold Cd.part; rw [if_pos (by simp only []; rw [HMD.out]; omega)]; simp only []; rw [p2]
                rw [hp1, hp2]
                obtain ⟨x, hxx⟩ : ∃ x, N * c = x := ⟨_, rfl⟩
                have u1 := IntWalk.i64_in (N * c) (by omega)
                rw [hxx] at u1 p0 p1 ⊢
                have u2 := IntWalk.i64_in (f + x) (by omega)
                have u3 := IntWalk.i64_in (f + x + c) (by omega)
                have q5 : (f + x != f + x) = false := by simp
                clear hp1 hp2 p2
                by_cases hcl : n < x + c
                · rw [if_pos hcl]
                  have q6 : (f + n != f + n) = false := by simp
                  have e3 : decide (f + n < f + x + c) = true := by simp; omega
                  go_wp2_with fail
                  go_quiet (fail)
                  go_wp2_with fail
                  go_roundg (gz - 1)
                  case measure => omega
                  case rel => exact ⟨k + 1, m2, by omega, by go_num, HMD.out, (h6.drewN _).first (l := [_, _])⟩
                · rw [if_neg hcl]
                  rw [show f + (x + c) = f + x + c from by omega]
                  have q6 : (f + x + c != f + x + c) = false := by simp
                  have e3 : decide (f + n < f + x + c) = false := by simp; omega
                  go_wp2_with fail
                  go_quiet (fail)
                  go_wp2_with fail
                  go_roundg (gz - 1)
                  case measure => omega
                  case rel => exact ⟨k + 1, m2, by omega, by go_num, HMD.out, (h6.drewN _).first (l := [_, _])⟩
    · rcases (by omega : ¬ k < l1.length ∨ (k < l1.length ∧ ¬ k < 60)) with hx | ⟨hx, hx'⟩
      all_goals
        clear hc
        go_wp2_with fail
        refine (awake_sep h).mono ?_
        rintro e w6 ⟨rfl, h6⟩
        go_wp2_with fail
        go_ret
        exact ⟨by simp, h6.below⟩
end Go.Proofs.Ytoalianiedjoaaa.Cd
