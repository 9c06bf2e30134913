/- What the laws of layer 7 lean on: an arena filled with words, its words as a list, two lists held against one another, the reference's head. Condition: lists are lists of words. -/
import Derived.Test.YtfaffpmmjlddeaaObj
import Derived.Test.YtfaffpmmjlddeaaQueue
import Derived.Deep.LoopGhost
set_option linter.unusedVariables false
set_option linter.unusedSimpArgs false
namespace Go.Proofs.Ytfaffpmmjlddeaa.Ob
open Go.RowKit Go.Proofs.Ytfaffpmmjlddeaa.W Go.Proofs.Ytfaffpmmjlddeaa.Ar Go.Proofs.Ytfaffpmmjlddeaa.Hea

theorem take_next {α : Type} {l l' : List α} {k : Nat} (d : α) (h : l.take k = l'.take k) (h1 : k < l.length) (h2 : k < l'.length) (e : l[k]?.getD d = l'[k]?.getD d) : l.take (k + 1) = l'.take (k + 1) := by
  rw [List.take_add_one, List.take_add_one, h]
  congr 1
  simp [h1, h2] at e ⊢
  exact e
theorem ne_at {α : Type} {l l' : List α} {k : Nat} (d : α) (e : ¬ l[k]?.getD d = l'[k]?.getD d) : l ≠ l' := by
  rintro rfl; exact e rfl

set_option maxHeartbeats 1000000 in
theorem same_calls {ok ok' : Nat → Prop} {l l' : List Int} {v v' : Value} (w : World) (h : SL w ok .u64 v l) (h' : SL w ok' .u64 v' l') :
    Calls Try.prog 26 #[v, v'] w fun e w' => e = .returned (.bool (decide (l = l'))) ∧ ∃ n, w' = w.drewN n := by
  obtain ⟨A, c, rfl, hl, hc⟩ := h
  obtain ⟨A', c', rfl, hl', hc'⟩ := h'
  by_cases hlen : l.length = l'.length
  · obtain ⟨r, hr⟩ : ∃ r, decide (l = l') = r := ⟨_, rfl⟩
    rw [hr]
    have HR := Lib.hid hr
    clear hr
    rw [← hlen]
    rw [← hlen] at hc' hl'
    have HLEN := Lib.hid hlen
    clear hlen
    have HC := Lib.hid hc
    have HC' := Lib.hid hc'
    clear hc hc'
    go_enter Try.func26, Try.ntmps26
    go_wp2
    go_loopw [5] (fun i wr => ∃ k : Nat, k ≤ l.length ∧ i = .int .i64 k ∧ l.take k = l'.take k ∧ ∃ n, wr = w.drewN n) (fun i _ => l.length - (intOf i).toNat)
    case atStart => exact ⟨0, Nat.zero_le _, rfl, rfl, 0, rfl⟩
    case round =>
      obtain ⟨k, hk, rfl, htake, n, rfl⟩ := hrel
      have HT := Lib.hid htake
      clear htake
      by_cases hlt : k < l.length
      · obtain ⟨b, o, rfl, _, _, hcell⟩ := HC.out (by omega)
        obtain ⟨b', o', rfl, _, _, hcell'⟩ := HC'.out (by omega)
        have c1 : w.cell? ⟨b, o + k, none⟩ = some (.int .u64 (l[k]?.getD 0)) := hcell k hlt
        have c2 : w.cell? ⟨b', o' + k, none⟩ = some (.int .u64 (l'[k]?.getD 0)) := hcell' k hlt
        have ha : ∀ x y : Nat, (Addr.mk x y none).add k = ⟨x, y + k, none⟩ := fun x y => Addr.add_lit _ _ _
        clear hcell hcell'
        have hlk : k < l'.length := by rw [← HLEN.out]; exact hlt
        obtain ⟨x, hx⟩ : ∃ x, l[k]?.getD 0 = x := ⟨_, rfl⟩
        obtain ⟨y, hy⟩ : ∃ y, l'[k]?.getD 0 = y := ⟨_, rfl⟩
        rw [hx] at c1
        rw [hy] at c2
        have HX := Lib.hid hx
        have HY := Lib.hid hy
        clear hx hy
        by_cases hxy : x = y
        · have hb : (x != y) = false := by simp [hxy]
          have HE := Lib.hid hxy
          clear hxy
          go_wp2
          go_quiet (fail)
          go_wp2
          go_roundw
          case rel => exact ⟨k + 1, by omega, by go_num, take_next 0 HT.out hlt hlk (by rw [HX.out, HY.out, HE.out]), _, rfl⟩
          case measure => simp [intOf]; omega
        · have hb : (x != y) = true := by simp [hxy]
          have hne : l ≠ l' := ne_at (k := k) 0 (by rw [HX.out, HY.out]; exact hxy)
          have hr : r = false := by rw [← HR.out]; simp [hne]
          subst hr
          clear hne hxy
          go_wp2
          go_quiet (fail)
          go_wp2
          go_ret
          exact ⟨rfl, _, World.drewN_drewN _ _ _⟩
      · have hk' : k = l.length := by omega
        have heq : l = l' := by
          have h1 := HT.out
          rw [List.take_of_length_le (by omega), List.take_of_length_le (by rw [← HLEN.out]; omega)] at h1
          exact h1
        have hr : r = true := by rw [← HR.out]; simp [heq]
        subst hr
        clear heq hk' HT HR
        go_wp2
        go_ret
        exact ⟨rfl, _, rfl⟩
  · have hb : ((l.length : Int) != (l'.length : Int)) = true := by rw [bne_iff_ne]; omega
    have hr : decide (l = l') = false := by
      rw [decide_eq_false_iff_not]; rintro rfl; exact hlen rfl
    rw [hr]
    clear hr hlen hc hc'
    go_enter Try.func26, Try.ntmps26
    go_wp2
    go_ret
    exact ⟨rfl, 0, rfl⟩

section
variable {w : World} {ok : Nat → Prop} {b : Nat} {ws : List Int}
theorem Len_o (h : OA w ok b ws) : Calls Try.prog 16 #[.pointer (some ⟨b, 0, none⟩)] w fun e w' => e = .returned (.int .i64 ws.length) ∧ w = w' := by
  obtain ⟨⟨n, hn⟩, hb⟩ := h
  exact Len_calls w hn
theorem New_o (n : Int) (w : World) (h0 : 0 ≤ n) (h1 : n ≤ 1048576) : Calls Try.prog 13 #[.int .i64 n] w fun e w' => ∃ b, e = .returned (.pointer (some ⟨b, 0, none⟩)) ∧ OA w' (fun i => w.heap.size ≤ i) b (List.replicate n.toNat 0) ∧ Keep (fun _ => False) w w' :=
  (New_calls n w).mono fun e w' ⟨b, he, hr, hk⟩ => by
    rw [clampN_id h0 h1] at hr
    exact ⟨b, he, ⟨⟨0, hr⟩, fun i => by
      by_cases hi : i < n.toNat
      · simp [hi, w64]
      · simp [hi, w64]⟩, hk⟩
set_option maxHeartbeats 1000000 in
theorem words_calls (hr : OA w ok b ws) (hlen : ws.length ≤ 200) : Calls Try.prog 27 #[.pointer (some ⟨b, 0, none⟩)] w fun e w' =>
    ∃ v, e = .returned v ∧ SL w' (fun i => w.heap.size ≤ i ∧ i < w'.heap.size) .u64 v ws ∧ OA w' ok b ws ∧ Keep ok w w' := by
  obtain ⟨ii, hi, hz, hs, hby⟩ := info_parts info_u64
  have hb0 := hr.bound
  have hr0 := hb0.alloc (.cells #[] 24)
  have k0 := (Keep.refl (fun i => ok i ∧ i < w.heap.size) w).alloc (.cells #[] 24)
  have hQ : QR (w.alloc (.cells #[] 24)) (fun i => w.heap.size ≤ i) 24 (some ⟨w.heap.size, 0, none⟩) 0 0 ([] : List Value) :=
    ⟨rfl, Nat.le_refl _, by omega, .inr ⟨_, 0, _, rfl, Nat.le_refl _, Blk.new w 24 #[], by simp, by simp⟩⟩
  clear hb0
  go_enter Try.func27, Try.ntmps27
  go_wp2_with fail
  go_loopg [3, 4] ws.length (fun gk v i wr => ∃ (k : Nat) (A : Option Addr) (c : Nat), k + gk = ws.length ∧ i = .int .i64 k ∧ v = .slice A k c ∧ QR wr (fun i => w.heap.size ≤ i) 24 A k c ((ws.map (Value.int .u64)).take k) ∧ OA wr (fun i => ok i ∧ i < w.heap.size) b ws ∧ Keep (fun i => ok i ∧ i < w.heap.size) w wr)
  case atStart => exact ⟨0, _, 0, by omega, rfl, rfl, hQ, hr0, k0⟩
  case round =>
    clear hQ hr0 k0
    obtain ⟨k, A, c, hk, rfl, rfl, hq, hr1, hk1⟩ := hrel
    by_cases hlt : k < ws.length
    · have hkn : (k : Int) < 200 := by omega
      have hld : ldW ws (k : Int) = ws[k]?.getD 0 := by unfold ldW; rw [inn_of (by omega) (by omega), if_pos rfl]; simp
      have htk : (ws.map (Value.int .u64)).take (k + 1) = (ws.map (Value.int .u64)).take k ++ [.int .u64 (ws[k]?.getD 0)] := by rw [List.take_add_one]; simp [hlt]
      have HLD := Lib.hid hld
      have HTK := Lib.hid htk
      clear hld htk
      go_wp2_with fail
      refine (Len_o hr1).mono ?_
      rintro e w1 ⟨rfl, rfl⟩
      go_wp2_with fail
      refine (Load_o (k : Int) hr1).mono ?_
      rintro e w1 ⟨rfl, hr2, k2⟩
      rw [HLD.out]
      generalize ws[k]?.getD 0 = x at HTK ⊢
      have hq2 := (hq.bound.keep k2 (fun i h1 h2 => by have := h1.1; have := h2.2; omega)).alloc (.cells #[.int .u64 x] 24)
      have hr3 := hr2.alloc (.cells #[.int .u64 x] 24)
      have hk3 := (hk1.trans k2 (fun i h => .inl h)).alloc (.cells #[.int .u64 x] 24)
      have hB := Blk.new w1 24 #[.int .u64 x]
      have s1 := k2.size
      have s0 := hk1.size
      clear hq hr1 hr2 hk1 k2
      go_wp2_with (at_builtin; refine wpList_append_q rfl _ _ 35 rfl 24 ii (.int .u64 0) 8 Try.underlying35 hi hz hs hby rfl A k c ((ws.map (Value.int .u64)).take k) rfl hq2 w1.heap.size (.int .u64 x) rfl ?c1 rfl ?c2 ?c3 ?_)
      case c1 => simp
      case c2 => omega
      case c3 => omega
      intro A' c' w3 hq3 hk4
      rw [← HTK.out] at hq3
      have hq4 := hq3.mono (ok' := fun i => w.heap.size ≤ i) (by rintro i (h | h) <;> first | exact h.1 | omega)
      have hr4 := hr3.keep hk4 (fun i h1 h2 => by have := h1.2; have := h2.1; omega)
      have hk5 := hk3.trans hk4 (fun i h => .inr h.1)
      clear hq2 hq3 hr3 hk3 hk4 hB
      go_wp2_with fail
      go_roundg (gk - 1)
      case measure => omega
      case rel => exact ⟨k + 1, A', c', by omega, by go_num, rfl, hq4, hr4, hk5⟩
    · have hkk : k = ws.length := by omega
      subst hkk
      rw [List.take_of_length_le (by simp)] at hq
      have hS : SL wr (fun i => w.heap.size ≤ i ∧ i < wr.heap.size) .u64 (.slice A ws.length c) ws := by
        have := (hq.bound).sl
        exact this.mono (fun i h => h)
      go_wp2_with fail
      refine (Len_o hr1).mono ?_
      rintro e w1 ⟨rfl, rfl⟩
      go_wp2_with fail
      go_ret
      exact ⟨_, rfl, hS, hr1.mono (fun i h => h.1), hk1.mono (fun i h => .inl h.1)⟩

set_option maxRecDepth 100000 in
set_option maxHeartbeats 1000000 in
theorem filled_calls (n s : Int) (w : World) (n0 : 0 ≤ n) (n1 : n ≤ 200) (hs : w64 s) : Calls Try.prog 22 #[.int .u8 n, .int .u64 s] w fun e w' =>
    ∃ (b G : Nat) (v : Value) (ws : List Int), e = .returned (.tuple #[.pointer (some ⟨b, 0, none⟩), v]) ∧ (ws.length : Int) = n ∧ OA w' (fun i => w.heap.size ≤ i ∧ i < G) b ws ∧ SL w' (fun i => G ≤ i ∧ i < w'.heap.size) .u64 v ws ∧ Keep (fun _ => False) w w' ∧ w.heap.size ≤ G := by
  go_enter Try.func22, Try.ntmps22
  go_wp2_with fail
  refine (New_o n w n0 (by omega)).mono ?_
  rintro e w1 ⟨b, rfl, hr, hk⟩
  have hs0 := hk.size
  obtain ⟨G, hG⟩ : ∃ G, w1.heap.size = G := ⟨_, rfl⟩
  have hr0 := hr.bound
  rw [hG] at hr0 hs0
  have hG1 : G ≤ w1.heap.size := by omega
  clear hr hG
  go_wp2_with fail
  go_loopg [1, 7] n.toNat (fun gk sd i wr => ∃ (k : Nat) (ws : List Int) (x : Int), (k : Int) + gk = n ∧ i = .int .i64 k ∧ sd = .int .u64 x ∧ w64 x ∧ (ws.length : Int) = n ∧ OA wr (fun i => w.heap.size ≤ i ∧ i < G) b ws ∧ Keep (fun _ => False) w wr ∧ G ≤ wr.heap.size)
  case atStart => exact ⟨0, _, s, by omega, rfl, rfl, hs, by simp; omega, hr0, hk, hG1⟩
  case round =>
    clear hr0 hk hs hG1
    obtain ⟨k, ws, x, hg, rfl, rfl, hx, hl, hr, hk, hG⟩ := hrel
    by_cases hlt : (k : Int) < n
    · go_wp2_with fail
      obtain ⟨y, hy⟩ : ∃ y, IntKind.u64.wrap (IntKind.u64.wrap (x * 6364136223846793005) + 1442695040888963407) = y := ⟨_, rfl⟩
      have hyb : w64 y := by rw [← hy, IntKind.wrap_u64]; unfold w64; omega
      rw [hy]
      have HY := Lib.hid hyb
      clear hy hyb
      refine (Store_o (k : Int) y hr HY.out).mono ?_
      rintro e w2 ⟨rfl, hr2, hk2⟩
      have hs2 := hk2.size
      go_wp2_with fail
      go_roundg (gk - 1)
      case measure => omega
      case rel => exact ⟨k + 1, _, y, by omega, by go_num, rfl, HY.out, by rw [stW_len]; exact hl, hr2, hk.trans hk2 (fun i h => .inr h.1), by omega⟩
    · go_wp2_with fail
      refine (words_calls hr (by omega)).mono ?_
      rintro e w2 ⟨v, rfl, hv, hr2, hk2⟩
      have hkk := hk.trans hk2 (fun i h => .inr h.1)
      have hs2 := hk2.size
      go_wp2_with fail
      go_ret2
      exact ⟨b, wr.heap.size, v, ws, rfl, hl, hr2.mono (fun i h => by omega), hv, hkk, by omega⟩
end

theorem RGood_calls (h : Hd) (w : World) : Calls Try.prog 24 #[.agg h.cells] w fun e w' => e = .returned (.bool (decide h.good)) ∧ Keep (fun _ => False) w w' := by
  obtain ⟨a0, a1, a2, a3, g, n, o⟩ := h
  unfold Hd.cells
  simp only []
  obtain ⟨r, hr⟩ : ∃ r, decide (Hd.good ⟨a0, a1, a2, a3, g, n, o⟩) = r := ⟨_, rfl⟩
  rw [hr]
  have HR := Lib.hid hr
  clear hr
  go_enter Try.func24, Try.ntmps24
  go_wp2
  all_goals
    go_ret
    refine ⟨ret_bool ?_, (Keep.refl _ w).alloc _⟩
    rw [← HR.out]
    refine good_bool ?_
    simp only []
    first
      | (simp only [Bool.false_eq_true, false_iff]; omega)
      | (simp only [decide_eq_true_eq]; omega)
      | (simp only [true_iff]; omega)
theorem ret_u64 {a b : Int} (h : a = b) : Ending.returned (.int .u64 a) = .returned (.int .u64 b) := by rw [h]
set_option maxHeartbeats 2000000 in
theorem RWord_calls (h : Hd) (w : World) (hg : h.good) : Calls Try.prog 28 #[.agg h.cells] w fun e w' => e = .returned (.int .u64 h.word) ∧ Keep (fun _ => False) w w' := by
  obtain ⟨x, hx⟩ : ∃ x, h.word = x := ⟨_, rfl⟩
  rw [hx]
  obtain ⟨a0, a1, a2, a3, g, n, o⟩ := h
  unfold Hd.good at hg
  unfold Hd.word at hx
  simp only [] at hg hx
  have HX := Lib.hid hx
  clear hx
  obtain ⟨g0, g1, g2, g3, g4, g5, g6, g7⟩ := hg
  cases g <;> cases n <;> cases o
  all_goals
    simp only [Hd.cells]
    go_enter Try.func28, Try.ntmps28
    go_wp2
    go_ret
    refine ⟨ret_u64 ?_, (Keep.refl _ w).alloc _⟩
    rw [← HX.out]
    simp only [IntKind.wrap_u64, Bool.false_eq_true, if_false, if_true]
    omega
end Go.Proofs.Ytfaffpmmjlddeaa.Ob
