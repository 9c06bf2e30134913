/- BufPlays as a contract. Condition: both lists read as lists. -/
import Derived.Test.YtdibadfecoipfaaBufLaws
import Derived.Test.YtdibadfecoipfaaBools
set_option linter.unusedVariables false
set_option linter.unusedSimpArgs false
namespace Go.Proofs.Ytdibadfecoipfaa.Bf
open Go.RowKit Go.Proofs.Ytdibadfecoipfaa.W Go.Proofs.Ytdibadfecoipfaa.Sm

theorem fits_iff (n : Int) (k : Nat) : ((k : Int) < clampN n) ↔ ((k : Int) < n ∧ k < 1048576) := by
  unfold clampN; (repeat' split) <;> omega

set_option maxHeartbeats 8000000 in
set_option maxRecDepth 100000 in
theorem Plays_calls {v1 v2 : Value} {l1 : List Int} {l2 : List Bool} (n : Int) (w : World) (g1 : SL w (fun i => i < w.heap.size) .i64 v1 l1) (g2 : SB w (fun i => i < w.heap.size) v2 l2) :
    Calls Try.prog 3 #[.int .i64 n, v1, v2] w fun e w' => e = .returned (.bool true) ∧ Below w.heap.size w w' := by
  obtain ⟨A1, c1, rfl, hm1, hc1⟩ := g1
  obtain ⟨A2, c2, rfl, hm2, hc2⟩ := g2
  have HC1 := Lib.hid hc1
  have HC2 := Lib.hid hc2
  clear hc1 hc2
  obtain ⟨i, hi, hz, hs, hby⟩ := info_parts info_int
  have hm0 : 0 ≤ clampN n := by unfold clampN; (repeat' split) <;> omega
  have hm9 : clampN n ≤ 1048576 := by unfold clampN; (repeat' split) <;> omega
  obtain ⟨M, hM⟩ : ∃ M, clampN n = M := ⟨_, rfl⟩
  have hfit := fun k => fits_iff n k
  rw [hM] at hm0 hm9 hfit
  have HF := Lib.hid hfit
  clear hfit
  go_enter Try.func3, Try.ntmps3
  go_wp2_with fail
  refine (New_calls n w).mono ?_
  rintro e w1 ⟨b, rfl, h1, k1⟩
  rw [hM] at h1
  have s1 := k1.size
  have hB := Blk.new w1 3 (#[] : Array Value)
  have hQ : QR (w1.alloc (.cells #[] 3)) (fun i => i = w1.heap.size) 3 (some ⟨w1.heap.size, 0, none⟩) 0 0 ([] : List Value) :=
    ⟨rfl, Nat.le_refl _, by omega, .inr ⟨_, 0, _, rfl, rfl, hB, by simp, by simp⟩⟩
  have b1 := h1.bound
  have h2 := b1.keep ((Keep.refl (fun _ => False) w1).alloc (.cells #[] 3)) (fun _ _ h => h)
  have k2 := k1.alloc (.cells #[] 3)
  clear h1 b1 hB k1 hM
  go_wp2_with fail
  go_loopw [8, 9] (fun v i wr => ∃ (k : Nat) (L : List Int) (A : Option Addr) (c : Nat) (oB oW : Nat → Prop), k ≤ 80 ∧ i = .int .i64 k ∧ v = .slice A L.length c ∧ BRep wr oB b M L ∧ QR wr oW 3 A L.length c (L.map (Value.int .i64)) ∧ Keep (fun _ => False) w wr ∧
      (∀ i, oB i → w.heap.size ≤ i ∧ i < wr.heap.size) ∧ (∀ i, oW i → w.heap.size ≤ i ∧ i < wr.heap.size) ∧ (∀ i, oB i → oW i → False)) (fun _ i _ => 80 - (intOf i).toNat)
  case atStart =>
    exact ⟨0, [], _, 0, _, _, by omega, rfl, rfl, h2, hQ, k2, fun i h => ⟨h.1, by have := h.2; simp; omega⟩, fun i h => by simp; omega, fun i h1 h2 => by have := h1.2; omega⟩
  case round =>
    clear h2 hQ k2
    obtain ⟨k, L, A, c, oB, oW, hk, rfl, rfl, hr, hq, hkp, hob, how, hdis⟩ := hrel
    by_cases hc : k < l1.length ∧ k < 80
    · obtain ⟨hl1, hl2⟩ := hc
      obtain ⟨b1, o1, rfl, hb1, hlt1, hcell1⟩ := HC1.out (by omega)
      have q1 : wr.cell? ⟨b1, o1 + k, none⟩ = some (.int .i64 (l1[k]?.getD 0)) := (World.cell?_of_block (hkp.block b1 hlt1 (fun h => h))).trans (hcell1 k hl1)
      obtain ⟨x, hx⟩ : ∃ x, l1[k]?.getD 0 = x := ⟨_, rfl⟩
      rw [hx] at q1
      clear hcell1 hx
      have hlm : (L.length : Int) ≤ M := by obtain ⟨_, _, _, _, _, h, _⟩ := hr; exact h
      by_cases ht : k < l2.length ∧ l2[k]?.getD false = true
      · obtain ⟨ht1, ht2⟩ := ht
        obtain ⟨b2, o2, rfl, hb2, hlt2, hcell2⟩ := HC2.out (by omega)
        have q2 : wr.cell? ⟨b2, o2 + k, none⟩ = some (.bool true) := by rw [← ht2]; exact (World.cell?_of_block (hkp.block b2 hlt2 (fun h => h))).trans (hcell2 k ht1)
        clear hcell2 ht2
        cases L with
        | nil =>
          go_wp2_with fail
          refine (Take_calls wr hr).mono ?_
          rintro e w9 ⟨rfl, hB9, k9⟩
          rw [show fst0 [] = 0 from rfl, show some0 [] = false from rfl]
          rw [show ([] : List Int).tail = [] from rfl] at hB9
          have hW9 := hq.keep k9 (fun i h1 h2 => hdis i h2 h1)
          have hK9 := hkp.trans k9 (fun i h => .inr (hob i h).1)
          obtain ⟨L9, hL9⟩ : ∃ L9 : List Int, L9 = [] := ⟨_, rfl⟩
          have hb9 : ∀ i, oB i → w.heap.size ≤ i ∧ i < w9.heap.size := fun i h => ⟨(hob i h).1, Nat.lt_of_lt_of_le (hob i h).2 k9.size⟩
          have hw9 : ∀ i, oW i → w.heap.size ≤ i ∧ i < w9.heap.size := fun i h => ⟨(how i h).1, Nat.lt_of_lt_of_le (how i h).2 k9.size⟩
          clear hr hq hkp k9 hob how hL9 L9
          go_wp2_with fail
          refine (Len_calls w9 hB9).mono ?_
          rintro e w10 ⟨rfl, rfl⟩
          go_wp2_with fail
          refine (All_calls w9 hB9).mono ?_
          rintro e w10 ⟨A10, c10, rfl, h10, k10⟩
          have hB10 := hB9.keep k10 (fun _ _ h => h)
          have hW10 := hW9.keep k10 (fun _ _ h => h)
          have hK10 := hK9.trans k10 (fun i h => .inl h)
          have hs10 := k10.size
          go_wp2_with fail
          refine (Ints_calls w10 h10 (hW10.sl)).mono ?_
          rintro e w11 ⟨rfl, m11, rfl⟩
          rw [show decide (([] : List Int) = []) = true from by simp]
          clear h10 k10 hB9 hW9 hK9
          go_wp2_with fail
          go_roundw
          case rel => exact ⟨k + 1, [], A, c, oB, oW, by omega, by go_num, rfl, hB10.drewN _, hW10.drewN _, hK10.drewN _, fun i h => ⟨(hb9 i h).1, Nat.lt_of_lt_of_le (hb9 i h).2 hs10⟩, fun i h => ⟨(hw9 i h).1, Nat.lt_of_lt_of_le (hw9 i h).2 hs10⟩, hdis⟩
          case measure => simp [intOf]; omega
        | cons y L9 =>
          go_wp2_with fail
          refine (Take_calls wr hr).mono ?_
          rintro e w9 ⟨rfl, hB9, k9⟩
          rw [show fst0 (y :: L9) = y from rfl, show some0 (y :: L9) = true from rfl]
          rw [show (y :: L9).tail = L9 from rfl] at hB9
          have hW8 := hq.keep k9 (fun i h1 h2 => hdis i h2 h1)
          have hK9 := hkp.trans k9 (fun i h => .inr (hob i h).1)
          obtain ⟨g, off, hA, hg, hgl, hcell, hfz⟩ := hW8.at_ (i := 0) (by simp)
          have c0 := hcell 0 (by simp)
          simp at c0
          obtain ⟨A9, hA9⟩ : ∃ A9, (if c = 1 then A else A.map (·.add 1)) = A9 := ⟨_, rfl⟩
          have hW9 := hW8.tail (by simp)
          rw [hA9] at hW9
          obtain ⟨c9, hc9⟩ : ∃ c9, c - 1 = c9 := ⟨_, rfl⟩
          rw [hc9] at hW9
          have hsl : ∀ W : World, (Instr.slice 22 (.slice A (L9.length + 1) c) (some (.int .i64 1)) none none).run Try.prog W = .ok (.slice A9 L9.length c9) W := by
            intro W
            rw [← hA9, ← hc9]
            exact run_cut1 Try.underlying22 hi hs A (L9.length + 1) c (by omega) W
          simp only [List.length_cons, Nat.add_sub_cancel, List.map_cons, List.drop_succ_cons, List.drop_zero] at hW9
          have hb9 : ∀ i, oB i → w.heap.size ≤ i ∧ i < w9.heap.size := fun i h => ⟨(hob i h).1, Nat.lt_of_lt_of_le (hob i h).2 k9.size⟩
          have hw9 : ∀ i, oW i → w.heap.size ≤ i ∧ i < w9.heap.size := fun i h => ⟨(how i h).1, Nat.lt_of_lt_of_le (how i h).2 k9.size⟩
          obtain ⟨oB9, hoB9⟩ : ∃ o, o = oB := ⟨_, rfl⟩
          obtain ⟨oW9, hoW9⟩ : ∃ o, o = oW := ⟨_, rfl⟩
          rw [← hoB9] at hb9 hB9 hdis
          rw [← hoW9] at hw9 hW9 hdis
          have hd9 := hdis
          have hn : ((y :: L9).length : Int) = (L9.length : Int) + 1 := by simp
          have HLM := Lib.hid hlm
          subst hA
          clear hr hq hkp k9 hob how hW8 hA9 hc9 hcell hoB9 hoW9 hdis hn hlm q1 q2
          go_wp2_with fail
          refine (Len_calls w9 hB9).mono ?_
          rintro e w10 ⟨rfl, rfl⟩
          go_wp2_with fail
          refine (All_calls w9 hB9).mono ?_
          rintro e w10 ⟨A10, c10, rfl, h10, k10⟩
          have hB10 := hB9.keep k10 (fun _ _ h => h)
          have hW10 := hW9.keep k10 (fun _ _ h => h)
          have hK10 := hK9.trans k10 (fun i h => .inl h)
          have hs10 := k10.size
          go_wp2_with fail
          refine (Ints_calls w10 h10 (hW10.sl)).mono ?_
          rintro e w11 ⟨rfl, m11, rfl⟩
          rw [show decide (L9 = L9) = true from by simp]
          clear h10 k10 hB9 hW9 hK9
          go_wp2_with fail
          go_roundw
          case rel => exact ⟨k + 1, L9, A9, c9, oB9, oW9, by omega, by go_num, rfl, hB10.drewN _, hW10.drewN _, hK10.drewN _, fun i h => ⟨(hb9 i h).1, Nat.lt_of_lt_of_le (hb9 i h).2 hs10⟩, fun i h => ⟨(hw9 i h).1, Nat.lt_of_lt_of_le (hw9 i h).2 hs10⟩, hd9⟩
          case measure => simp [intOf]; omega
      · have hput : ∀ Q : Prop, Q → Q := fun _ h => h
        clear hput
        rcases (by
          by_cases h : k < l2.length
          · exact .inr ⟨h, by simpa [h] using ht⟩
          · exact .inl h : ¬ k < l2.length ∨ (k < l2.length ∧ l2[k]?.getD false = false)) with ht1 | ⟨ht1, ht2⟩
        rotate_left
        · obtain ⟨b2, o2, rfl, hb2, hlt2, hcell2⟩ := HC2.out (by omega)
          have q2 : wr.cell? ⟨b2, o2 + k, none⟩ = some (.bool false) := by rw [← ht2]; exact (World.cell?_of_block (hkp.block b2 hlt2 (fun h => h))).trans (hcell2 k ht1)
          clear hcell2 ht2 ht
          by_cases hf : (L.length : Int) < M
          · have hf2 := (HF.out L.length).1 hf
            have d1 : decide ((L.length : Int) < n) = true := by simpa using hf2.1
            have d2 : decide (L.length < 1048576) = true := by simpa using hf2.2
            obtain ⟨hfa, hfb⟩ := hf2
            have HFB := Lib.hid hfb
            go_wp2_with fail
            clear hfa hfb d1 d2
            refine (Put_calls x wr hr).mono ?_
            rintro e w8 ⟨rfl, hB8, k8⟩
            rw [show decide ((L.length : Int) < M) = true from by simpa using hf, show decide ((L.length : Int) < 1048576) = true from by rw [decide_eq_true_eq]; have := HFB.out; omega]
            rw [putL_ok x hf] at hB8
            have hW8 := hq.keep k8 (fun i h1 h2 => hdis i h2 h1)
            have hK8 := hkp.trans k8 (fun i h => .inr (hob i h).1)
            have hB8' := hB8.bound
            have q8 : w8.cell? ⟨b1, o1 + k, none⟩ = some (.int .i64 x) := (World.cell?_of_block (k8.block b1 (Nat.lt_of_lt_of_le hlt1 hkp.size) (fun h => by have := (hob b1 h).1; omega))).trans q1
            have hs8 := k8.size
            have hsr := hkp.size
            have hW8a := hW8.alloc (.cells #[.int .i64 x] 3)
            clear hr hq hkp k8 hB8 hW8 q1
            go_wp2_with (at_builtin; refine wpList_append_q rfl _ _ 22 rfl 3 i (.int .i64 0) 8 Try.underlying22 hi hz hs hby rfl A L.length c (L.map (Value.int .i64)) rfl hW8a w8.heap.size (.int .i64 x) rfl ?c1 rfl ?c2 ?c3 ?_)
            case c1 => simp
            case c2 => have := HFB.out; omega
            case c3 => have := HFB.out; omega
            intro A9 c9 w9 hW9 k9
            have hlen9 : (L ++ [x]).length = L.length + 1 := by simp
            have hmap9 : L.map (Value.int .i64) ++ [.int .i64 x] = (L ++ [x]).map (Value.int .i64) := by simp
            rw [hmap9, ← hlen9] at hW9
            have hB9 := (hB8'.keep ((Keep.refl (fun _ => False) w8).alloc (.cells #[.int .i64 x] 3)) (fun _ _ h => h)).keep k9 (fun i h1 h2 => by
              have hw := how i h2
              rcases h1.1 with h | h
              · exact hdis i h h2
              · omega)
            have hK9 := (hK8.alloc (.cells #[.int .i64 x] 3)).trans k9 (fun i h => .inr (how i h).1)
            have hs9 := k9.size
            simp only [World.size_alloc] at hs9
            have hW9' := hW9.bound
            obtain ⟨L9, hL9⟩ : ∃ L9, L ++ [x] = L9 := ⟨_, rfl⟩
            rw [hL9] at hW9' hB9 hlen9
            clear hW9
            have hW9 := hW9'
            clear hW9' hB8' hK8 k9 hW8a q8 hmap9 hL9
            obtain ⟨oB9, hoB9⟩ : ∃ o, o = (fun i => (oB i ∨ wr.heap.size ≤ i) ∧ i < w8.heap.size) := ⟨_, rfl⟩
            obtain ⟨oW9, hoW9⟩ : ∃ o, o = (fun i => (oW i ∨ w8.heap.size + 1 ≤ i) ∧ i < w9.heap.size) := ⟨_, rfl⟩
            rw [← hoB9] at hB9
            rw [← hoW9] at hW9
            have hb9 : ∀ i, oB9 i → w.heap.size ≤ i ∧ i < w9.heap.size := by
              intro i h
              rw [hoB9] at h
              refine ⟨?_, by omega⟩
              rcases h.1 with h' | h'
              · exact (hob i h').1
              · omega
            have hw9 : ∀ i, oW9 i → w.heap.size ≤ i ∧ i < w9.heap.size := by
              intro i h
              rw [hoW9] at h
              refine ⟨?_, h.2⟩
              rcases h.1 with h' | h'
              · exact (how i h').1
              · omega
            have hd9 : ∀ i, oB9 i → oW9 i → False := by
              intro i h1 h2
              rw [hoB9] at h1
              rw [hoW9] at h2
              rcases h2.1 with h' | h'
              · rcases h1.1 with h'' | h''
                · exact hdis i h'' h'
                · have := (how i h').2; omega
              · omega
            have HL9 := Lib.hid hlen9
            rw [← hlen9]
            clear hoB9 hoW9 hob how hdis hlen9
            go_wp2_with fail
            refine (Len_calls w9 hB9).mono ?_
            rintro e w10 ⟨rfl, rfl⟩
            go_wp2_with fail
            refine (All_calls w9 hB9).mono ?_
            rintro e w10 ⟨A10, c10, rfl, h10, k10⟩
            have hB10 := hB9.keep k10 (fun _ _ h => h)
            have hW10 := hW9.keep k10 (fun _ _ h => h)
            have hK10 := hK9.trans k10 (fun i h => .inl h)
            have hs10 := k10.size
            go_wp2_with fail
            refine (Ints_calls w10 h10 (hW10.sl)).mono ?_
            rintro e w11 ⟨rfl, m11, rfl⟩
            rw [show decide (L9 = L9) = true from by simp]
            clear h10 k10 hB9 hW9 hK9
            go_wp2_with fail
            go_roundw
            case rel => exact ⟨k + 1, L9, A9, c9, oB9, oW9, by omega, by go_num, rfl, hB10.drewN _, hW10.drewN _, hK10.drewN _, fun i h => ⟨(hb9 i h).1, Nat.lt_of_lt_of_le (hb9 i h).2 hs10⟩, fun i h => ⟨(hw9 i h).1, Nat.lt_of_lt_of_le (hw9 i h).2 hs10⟩, hd9⟩
            case measure => simp [intOf]; omega
          · have hf2 : ¬ ((L.length : Int) < n ∧ L.length < 1048576) := fun h => hf ((HF.out L.length).2 h)
            have hb3 : (decide ((L.length : Int) < n) && decide (L.length < 1048576)) = false := by simpa using hf2
            rcases (by omega : ¬ (L.length : Int) < n ∨ ((L.length : Int) < n ∧ ¬ L.length < 1048576)) with hz1 | ⟨hz1, hz2⟩
            all_goals
              clear hf2 hb3
              (try have HZ2 : Hid (¬ L.length < 1048576) := hz2)
              go_wp2_with fail
              (try clear hz2)
              (try clear hz1)
              refine (Put_calls x wr hr).mono ?_
              rintro e w9 ⟨rfl, hB9, k9⟩
              rw [show decide ((L.length : Int) < M) = false from by simpa using hf]
              (try rw [show decide ((L.length : Int) < 1048576) = false from by rw [decide_eq_false_iff_not]; have := HZ2.out; omega])
              rw [putL_no x (by omega)] at hB9
              have hW9 := hq.keep k9 (fun i h1 h2 => hdis i h2 h1)
              have hK9 := hkp.trans k9 (fun i h => .inr (hob i h).1)
              have hB9' := hB9.bound
              have hs9 := k9.size
              have hsr := hkp.size
              clear hB9
              have hB9 := hB9'
              obtain ⟨L9, rfl⟩ : ∃ L9, L9 = L := ⟨_, rfl⟩
              obtain ⟨A9, rfl⟩ : ∃ A9, A9 = A := ⟨_, rfl⟩
              obtain ⟨c9, rfl⟩ : ∃ c9, c9 = c := ⟨_, rfl⟩
              obtain ⟨oB9, hoB9⟩ : ∃ o, o = (fun i => (oB i ∨ wr.heap.size ≤ i) ∧ i < w9.heap.size) := ⟨_, rfl⟩
              obtain ⟨oW9, hoW9⟩ : ∃ o, o = oW := ⟨_, rfl⟩
              rw [← hoB9] at hB9
              rw [← hoW9] at hW9 how hdis
              have hb9 : ∀ i, oB9 i → w.heap.size ≤ i ∧ i < w9.heap.size := by
                intro i h
                rw [hoB9] at h
                refine ⟨?_, h.2⟩
                rcases h.1 with h' | h'
                · exact (hob i h').1
                · omega
              have hw9 : ∀ i, oW9 i → w.heap.size ≤ i ∧ i < w9.heap.size := fun i h => ⟨(how i h).1, Nat.lt_of_lt_of_le (how i h).2 hs9⟩
              have hd9 : ∀ i, oB9 i → oW9 i → False := by
                intro i h1 h2
                rw [hoB9] at h1
                rcases h1.1 with h'' | h''
                · exact hdis i h'' h2
                · have := (how i h2).2; omega
              clear hr hq hkp k9 hob how hdis hB9' hoB9 hoW9
              go_wp2_with fail
              refine (Len_calls w9 hB9).mono ?_
              rintro e w10 ⟨rfl, rfl⟩
              go_wp2_with fail
              refine (All_calls w9 hB9).mono ?_
              rintro e w10 ⟨A10, c10, rfl, h10, k10⟩
              have hB10 := hB9.keep k10 (fun _ _ h => h)
              have hW10 := hW9.keep k10 (fun _ _ h => h)
              have hK10 := hK9.trans k10 (fun i h => .inl h)
              have hs10 := k10.size
              go_wp2_with fail
              refine (Ints_calls w10 h10 (hW10.sl)).mono ?_
              rintro e w11 ⟨rfl, m11, rfl⟩
              rw [show decide (L9 = L9) = true from by simp]
              clear h10 k10 hB9 hW9 hK9
              go_wp2_with fail
              go_roundw
              case rel => exact ⟨k + 1, L9, A9, c9, oB9, oW9, by omega, by go_num, rfl, hB10.drewN _, hW10.drewN _, hK10.drewN _, fun i h => ⟨(hb9 i h).1, Nat.lt_of_lt_of_le (hb9 i h).2 hs10⟩, fun i h => ⟨(hw9 i h).1, Nat.lt_of_lt_of_le (hw9 i h).2 hs10⟩, hd9⟩
              case measure => simp [intOf]; omega
        · clear ht
          by_cases hf : (L.length : Int) < M
          · have hf2 := (HF.out L.length).1 hf
            have d1 : decide ((L.length : Int) < n) = true := by simpa using hf2.1
            have d2 : decide (L.length < 1048576) = true := by simpa using hf2.2
            obtain ⟨hfa, hfb⟩ := hf2
            have HFB := Lib.hid hfb
            go_wp2_with fail
            clear hfa hfb d1 d2
            refine (Put_calls x wr hr).mono ?_
            rintro e w8 ⟨rfl, hB8, k8⟩
            rw [show decide ((L.length : Int) < M) = true from by simpa using hf, show decide ((L.length : Int) < 1048576) = true from by rw [decide_eq_true_eq]; have := HFB.out; omega]
            rw [putL_ok x hf] at hB8
            have hW8 := hq.keep k8 (fun i h1 h2 => hdis i h2 h1)
            have hK8 := hkp.trans k8 (fun i h => .inr (hob i h).1)
            have hB8' := hB8.bound
            have q8 : w8.cell? ⟨b1, o1 + k, none⟩ = some (.int .i64 x) := (World.cell?_of_block (k8.block b1 (Nat.lt_of_lt_of_le hlt1 hkp.size) (fun h => by have := (hob b1 h).1; omega))).trans q1
            have hs8 := k8.size
            have hsr := hkp.size
            have hW8a := hW8.alloc (.cells #[.int .i64 x] 3)
            clear hr hq hkp k8 hB8 hW8 q1
            go_wp2_with (at_builtin; refine wpList_append_q rfl _ _ 22 rfl 3 i (.int .i64 0) 8 Try.underlying22 hi hz hs hby rfl A L.length c (L.map (Value.int .i64)) rfl hW8a w8.heap.size (.int .i64 x) rfl ?c1 rfl ?c2 ?c3 ?_)
            case c1 => simp
            case c2 => have := HFB.out; omega
            case c3 => have := HFB.out; omega
            intro A9 c9 w9 hW9 k9
            have hlen9 : (L ++ [x]).length = L.length + 1 := by simp
            have hmap9 : L.map (Value.int .i64) ++ [.int .i64 x] = (L ++ [x]).map (Value.int .i64) := by simp
            rw [hmap9, ← hlen9] at hW9
            have hB9 := (hB8'.keep ((Keep.refl (fun _ => False) w8).alloc (.cells #[.int .i64 x] 3)) (fun _ _ h => h)).keep k9 (fun i h1 h2 => by
              have hw := how i h2
              rcases h1.1 with h | h
              · exact hdis i h h2
              · omega)
            have hK9 := (hK8.alloc (.cells #[.int .i64 x] 3)).trans k9 (fun i h => .inr (how i h).1)
            have hs9 := k9.size
            simp only [World.size_alloc] at hs9
            have hW9' := hW9.bound
            obtain ⟨L9, hL9⟩ : ∃ L9, L ++ [x] = L9 := ⟨_, rfl⟩
            rw [hL9] at hW9' hB9 hlen9
            clear hW9
            have hW9 := hW9'
            clear hW9' hB8' hK8 k9 hW8a q8 hmap9 hL9
            obtain ⟨oB9, hoB9⟩ : ∃ o, o = (fun i => (oB i ∨ wr.heap.size ≤ i) ∧ i < w8.heap.size) := ⟨_, rfl⟩
            obtain ⟨oW9, hoW9⟩ : ∃ o, o = (fun i => (oW i ∨ w8.heap.size + 1 ≤ i) ∧ i < w9.heap.size) := ⟨_, rfl⟩
            rw [← hoB9] at hB9
            rw [← hoW9] at hW9
            have hb9 : ∀ i, oB9 i → w.heap.size ≤ i ∧ i < w9.heap.size := by
              intro i h
              rw [hoB9] at h
              refine ⟨?_, by omega⟩
              rcases h.1 with h' | h'
              · exact (hob i h').1
              · omega
            have hw9 : ∀ i, oW9 i → w.heap.size ≤ i ∧ i < w9.heap.size := by
              intro i h
              rw [hoW9] at h
              refine ⟨?_, h.2⟩
              rcases h.1 with h' | h'
              · exact (how i h').1
              · omega
            have hd9 : ∀ i, oB9 i → oW9 i → False := by
              intro i h1 h2
              rw [hoB9] at h1
              rw [hoW9] at h2
              rcases h2.1 with h' | h'
              · rcases h1.1 with h'' | h''
                · exact hdis i h'' h'
                · have := (how i h').2; omega
              · omega
            have HL9 := Lib.hid hlen9
            rw [← hlen9]
            clear hoB9 hoW9 hob how hdis hlen9
            go_wp2_with fail
            refine (Len_calls w9 hB9).mono ?_
            rintro e w10 ⟨rfl, rfl⟩
            go_wp2_with fail
            refine (All_calls w9 hB9).mono ?_
            rintro e w10 ⟨A10, c10, rfl, h10, k10⟩
            have hB10 := hB9.keep k10 (fun _ _ h => h)
            have hW10 := hW9.keep k10 (fun _ _ h => h)
            have hK10 := hK9.trans k10 (fun i h => .inl h)
            have hs10 := k10.size
            go_wp2_with fail
            refine (Ints_calls w10 h10 (hW10.sl)).mono ?_
            rintro e w11 ⟨rfl, m11, rfl⟩
            rw [show decide (L9 = L9) = true from by simp]
            clear h10 k10 hB9 hW9 hK9
            go_wp2_with fail
            go_roundw
            case rel => exact ⟨k + 1, L9, A9, c9, oB9, oW9, by omega, by go_num, rfl, hB10.drewN _, hW10.drewN _, hK10.drewN _, fun i h => ⟨(hb9 i h).1, Nat.lt_of_lt_of_le (hb9 i h).2 hs10⟩, fun i h => ⟨(hw9 i h).1, Nat.lt_of_lt_of_le (hw9 i h).2 hs10⟩, hd9⟩
            case measure => simp [intOf]; omega
          · have hf2 : ¬ ((L.length : Int) < n ∧ L.length < 1048576) := fun h => hf ((HF.out L.length).2 h)
            have hb3 : (decide ((L.length : Int) < n) && decide (L.length < 1048576)) = false := by simpa using hf2
            rcases (by omega : ¬ (L.length : Int) < n ∨ ((L.length : Int) < n ∧ ¬ L.length < 1048576)) with hz1 | ⟨hz1, hz2⟩
            all_goals
              clear hf2 hb3
              (try have HZ2 : Hid (¬ L.length < 1048576) := hz2)
              go_wp2_with fail
              (try clear hz2)
              (try clear hz1)
              refine (Put_calls x wr hr).mono ?_
              rintro e w9 ⟨rfl, hB9, k9⟩
              rw [show decide ((L.length : Int) < M) = false from by simpa using hf]
              (try rw [show decide ((L.length : Int) < 1048576) = false from by rw [decide_eq_false_iff_not]; have := HZ2.out; omega])
              rw [putL_no x (by omega)] at hB9
              have hW9 := hq.keep k9 (fun i h1 h2 => hdis i h2 h1)
              have hK9 := hkp.trans k9 (fun i h => .inr (hob i h).1)
              have hB9' := hB9.bound
              have hs9 := k9.size
              have hsr := hkp.size
              clear hB9
              have hB9 := hB9'
              obtain ⟨L9, rfl⟩ : ∃ L9, L9 = L := ⟨_, rfl⟩
              obtain ⟨A9, rfl⟩ : ∃ A9, A9 = A := ⟨_, rfl⟩
              obtain ⟨c9, rfl⟩ : ∃ c9, c9 = c := ⟨_, rfl⟩
              obtain ⟨oB9, hoB9⟩ : ∃ o, o = (fun i => (oB i ∨ wr.heap.size ≤ i) ∧ i < w9.heap.size) := ⟨_, rfl⟩
              obtain ⟨oW9, hoW9⟩ : ∃ o, o = oW := ⟨_, rfl⟩
              rw [← hoB9] at hB9
              rw [← hoW9] at hW9 how hdis
              have hb9 : ∀ i, oB9 i → w.heap.size ≤ i ∧ i < w9.heap.size := by
                intro i h
                rw [hoB9] at h
                refine ⟨?_, h.2⟩
                rcases h.1 with h' | h'
                · exact (hob i h').1
                · omega
              have hw9 : ∀ i, oW9 i → w.heap.size ≤ i ∧ i < w9.heap.size := fun i h => ⟨(how i h).1, Nat.lt_of_lt_of_le (how i h).2 hs9⟩
              have hd9 : ∀ i, oB9 i → oW9 i → False := by
                intro i h1 h2
                rw [hoB9] at h1
                rcases h1.1 with h'' | h''
                · exact hdis i h'' h2
                · have := (how i h2).2; omega
              clear hr hq hkp k9 hob how hdis hB9' hoB9 hoW9
              go_wp2_with fail
              refine (Len_calls w9 hB9).mono ?_
              rintro e w10 ⟨rfl, rfl⟩
              go_wp2_with fail
              refine (All_calls w9 hB9).mono ?_
              rintro e w10 ⟨A10, c10, rfl, h10, k10⟩
              have hB10 := hB9.keep k10 (fun _ _ h => h)
              have hW10 := hW9.keep k10 (fun _ _ h => h)
              have hK10 := hK9.trans k10 (fun i h => .inl h)
              have hs10 := k10.size
              go_wp2_with fail
              refine (Ints_calls w10 h10 (hW10.sl)).mono ?_
              rintro e w11 ⟨rfl, m11, rfl⟩
              rw [show decide (L9 = L9) = true from by simp]
              clear h10 k10 hB9 hW9 hK9
              go_wp2_with fail
              go_roundw
              case rel => exact ⟨k + 1, L9, A9, c9, oB9, oW9, by omega, by go_num, rfl, hB10.drewN _, hW10.drewN _, hK10.drewN _, fun i h => ⟨(hb9 i h).1, Nat.lt_of_lt_of_le (hb9 i h).2 hs10⟩, fun i h => ⟨(hw9 i h).1, Nat.lt_of_lt_of_le (hw9 i h).2 hs10⟩, hd9⟩
              case measure => simp [intOf]; omega
    · rcases (by omega : ¬ k < l1.length ∨ (k < l1.length ∧ ¬ k < 80)) with hx | ⟨hx, hx'⟩
      all_goals
        clear hc
        go_wp2_with fail
        refine (awake_calls wr).mono ?_
        rintro e w6 ⟨rfl, k6⟩
        go_wp2_with fail
        go_ret
        exact ⟨by simp, (hkp.trans k6 (fun i h => .inl h)).below (fun i h => h.elim)⟩
end Go.Proofs.Ytdibadfecoipfaa.Bf
