/- Laws of layer 11 as contracts: each returns true and leaves what was there as it was. Condition: an argument that is a slice reads as a list. -/
import Derived.Test.YtdibadfecoipfaaGrey
set_option linter.unusedVariables false
set_option linter.unusedSimpArgs false
namespace Go.Proofs.Ytdibadfecoipfaa.Gy
open Go.RowKit Go.Proofs.Ytdibadfecoipfaa.W Go.Proofs.Ytdibadfecoipfaa.Sm

def At (W w : World) (b : Nat) (most : Int) (L : List Int) (lost : Bool) : Prop := GRep w (fun i => W.heap.size ≤ i) b most L lost ∧ Keep (fun _ => False) W w
section
variable {W w : World} {b : Nat} {most : Int} {L : List Int} {lost : Bool}
theorem At.go {w' : World} {most' : Int} {L' : List Int} {lost' : Bool} (h : At W w b most L lost) (r : GRep w' (fun i => W.heap.size ≤ i) b most' L' lost') (k : Keep (fun i => W.heap.size ≤ i) w w') : At W w' b most' L' lost' :=
  ⟨r, h.2.trans k (fun i h => .inr h)⟩
theorem At.stay {w' : World} (h : At W w b most L lost) (k : Keep (fun _ => False) w w') : At W w' b most L lost := ⟨h.1.keep k (fun _ _ h => h), h.2.trans k (fun i h => .inl h)⟩
theorem At.drewN (h : At W w b most L lost) (n : Nat) : At W (w.drewN n) b most L lost := ⟨h.1.drewN n, h.2.drewN n⟩
theorem At.alloc (h : At W w b most L lost) (o : Obj) : At W (w.alloc o) b most L lost := h.stay ((Keep.refl _ _).alloc o)
theorem At.below (h : At W w b most L lost) : Below W.heap.size W w := h.2.below (fun _ h => h.elim)
theorem At.keep0 (h : At W w b most L lost) : Keep (fun _ => False) W w := h.2
theorem At.block (h : At W w b most L lost) (i : Nat) (hi : i < W.heap.size) : w.heap[i]? = W.heap[i]? := h.2.block i hi (fun h => h)
theorem At.len (h : At W w b most L lost) : (L.length : Int) ≤ most ∧ 0 ≤ most ∧ most ≤ 1048576 := by obtain ⟨⟨A, c, _, h0, h1, h2, _⟩, _⟩ := h; exact ⟨h2, h0, h1⟩
theorem New_at (n : Int) (w : World) : Calls Try.prog 19 #[.int .i64 n] w fun e w' => ∃ b, e = .returned (.pointer (some ⟨b, 0, none⟩)) ∧ At w w' b (clampN n) [] false :=
  (New_calls n w).mono fun e w' ⟨b, he, hr, hk⟩ => ⟨b, he, hr, hk⟩
theorem Len_at (h : At W w b most L lost) : Calls Try.prog 25 #[.pointer (some ⟨b, 0, none⟩)] w fun e w' => e = .returned (.int .i64 L.length) ∧ At W w' b most L lost :=
  (Len_calls w h.1).mono fun e w' ⟨he, hw⟩ => ⟨he, hw ▸ h⟩
theorem Lost_at (h : At W w b most L lost) : Calls Try.prog 24 #[.pointer (some ⟨b, 0, none⟩)] w fun e w' => e = .returned (.bool lost) ∧ At W w' b most L lost :=
  (Lost_calls w h.1).mono fun e w' ⟨he, n, hw⟩ => ⟨he, hw ▸ h.drewN n⟩
theorem Found_at (h : At W w b most L lost) : Calls Try.prog 22 #[.pointer (some ⟨b, 0, none⟩)] w fun e w' => e = .returned (.tuple #[]) ∧ At W w' b most L false :=
  (Found_calls w h.1).mono fun e w' ⟨he, hr, hk⟩ => ⟨he, h.go hr hk⟩
theorem Push_at (x : Int) (h : At W w b most L lost) : Calls Try.prog 20 #[.pointer (some ⟨b, 0, none⟩), .int .i64 x] w fun e w' =>
    e = .returned (.bool (decide ((L.length : Int) < most))) ∧ At W w' b most (putL L most x) (lost || decide (most ≤ (L.length : Int))) :=
  (Push_calls x w h.1).mono fun e w' ⟨he, hr, hk⟩ => ⟨he, h.go (hr.mono fun i hi => by have := h.2.size; omega) hk⟩
theorem Pop_at (h : At W w b most L lost) : Calls Try.prog 21 #[.pointer (some ⟨b, 0, none⟩)] w fun e w' => e = .returned (.tuple #[.int .i64 (last0 L), .bool (some0 L)]) ∧ At W w' b most (L.take (L.length - 1)) lost :=
  (Pop_calls w h.1).mono fun e w' ⟨he, hr, hk⟩ => ⟨he, h.go hr hk⟩
theorem All_at (h : At W w b most L lost) : Calls Try.prog 26 #[.pointer (some ⟨b, 0, none⟩)] w fun e w' => ∃ A c, e = .returned (.slice A L.length c) ∧ SL w' (fun i => w.heap.size ≤ i) .i64 (.slice A L.length c) L ∧ At W w' b most L lost :=
  (All_calls w h.1).mono fun e w' ⟨A, c, he, hs, hk⟩ => ⟨A, c, he, hs, h.stay hk⟩
end

/-- What a stack holds behind the first k of a list. -/
def got (l : List Int) (most : Int) (k : Nat) : List Int := (l.take k).take most.toNat
theorem got_len (l : List Int) (most : Int) {k : Nat} (h : k ≤ l.length) (h0 : 0 ≤ most) : ((got l most k).length : Int) = if (k : Int) < most then (k : Int) else most := by
  unfold got; rw [List.length_take, List.length_take]; split <;> omega
theorem got_ok {l : List Int} {most : Int} {k : Nat} (h : k < l.length) (hk : (k : Int) < most) : putL (got l most k) most (l[k]?.getD 0) = got l most (k + 1) := by
  have h1 := got_len l most (k := k) (by omega) (by omega)
  rw [if_pos hk] at h1
  rw [putL_ok _ (by omega)]
  unfold got
  rw [List.take_of_length_le (l := l.take k) (by rw [List.length_take]; omega), List.take_of_length_le (l := l.take (k + 1)) (by rw [List.length_take]; omega), List.take_add_one]
  simp [h]
theorem got_no {l : List Int} {most : Int} {k : Nat} (h : k < l.length) (h0 : 0 ≤ most) (hk : ¬ (k : Int) < most) (x : Int) : putL (got l most k) most x = got l most (k + 1) := by
  have h1 := got_len l most (k := k) (by omega) (by omega)
  rw [if_neg hk] at h1
  rw [putL_no _ (by omega)]
  unfold got
  rw [List.take_take, List.take_take]
  congr 1
  omega

set_option maxHeartbeats 1000000 in
theorem Put_calls {ok ok' : Nat → Prop} {v : Value} {l : List Int} {b : Nat} {most : Int} {L : List Int} {lost : Bool} (w : World) (h : GRep w ok b most L lost) (hl : SL w ok' .i64 v l) (hn : ∀ i, ok i → ok' i → False) :
    Calls Try.prog 23 #[.pointer (some ⟨b, 0, none⟩), v] w fun e w' =>
      e = .returned (.tuple #[]) ∧ GRep w' (fun k => ok k ∨ w.heap.size ≤ k) b most (got l most l.length) (lost || decide (most < (l.length : Int))) ∧ Keep ok w w' := by
  obtain ⟨A1, c1, rfl, hm1, hc1⟩ := hl
  obtain ⟨A, c, ob, h0, h1, h2, hb, hq⟩ := h
  have f1 := hb.cell 1
  simp at f1
  have z1 := hb.frozen 1
  have hR : GRep (w.setCell ⟨b, 1, none⟩ (.slice none 0 0)) (fun k => ok k ∨ w.heap.size ≤ k) b most [] lost :=
    ⟨none, 0, .inl ob, h0, h1, by simpa using h0, by simpa using hb.set_ 1 (.slice none 0 0), QR.nil _ _ _⟩
  have hK : Keep ok w (w.setCell ⟨b, 1, none⟩ (.slice none 0 0)) := (Keep.refl ok w).set_ (.inl ob) _
  have up : ∀ (W : World) (i : Nat), w.heap.size ≤ W.heap.size → ((ok i ∨ w.heap.size ≤ i) ∨ W.heap.size ≤ i) → (ok i ∨ w.heap.size ≤ i) := fun W i h1 h2 => by
    rcases h2 with h | h
    · exact h
    · exact .inr (by omega)
  have UP := Lib.hid up
  have HC1 := Lib.hid hc1
  have HN := Lib.hid hn
  clear up hc1 hn hb hq
  go_enter Try.func23, Try.ntmps23
  go_wp2_with fail
  go_loopw [13] (fun i wr => ∃ k : Nat, k ≤ l.length ∧ i = .int .i64 k ∧ GRep wr (fun i => ok i ∨ w.heap.size ≤ i) b most (got l most k) (lost || decide (most < (k : Int))) ∧ Keep ok w wr) (fun i _ => l.length - (intOf i).toNat)
  case atStart => exact ⟨0, by omega, rfl, by rw [show decide (most < ((0 : Nat) : Int)) = false from by simpa using h0, Bool.or_false, show got l most 0 = [] from by simp [got]]; exact hR, hK⟩
  case round =>
    clear hR hK f1 z1
    obtain ⟨k, hk, rfl, hr, hkp⟩ := hrel
    by_cases hlt : k < l.length
    · obtain ⟨b1, o1, rfl, hb1, hlt1, hcell1⟩ := HC1.out (by omega)
      have q1 : wr.cell? ⟨b1, o1 + k, none⟩ = some (.int .i64 (l[k]?.getD 0)) := (World.cell?_of_block (hkp.block b1 hlt1 (fun h => HN.out b1 h hb1))).trans (hcell1 k hlt)
      have hlen := got_len l most (k := k) (by omega) h0
      have hnext : putL (got l most k) most (l[k]?.getD 0) = got l most (k + 1) ∧ ((lost || decide (most < (k : Int))) || decide (most ≤ ((got l most k).length : Int))) = (lost || decide (most < ((k + 1 : Nat) : Int))) := by
        by_cases hkm : (k : Int) < most
        · rw [if_pos hkm] at hlen
          refine ⟨got_ok hlt hkm, ?_⟩
          rw [show decide (most < (k : Int)) = false from by simp; omega, show decide (most ≤ ((got l most k).length : Int)) = false from by simp; omega, show decide (most < ((k + 1 : Nat) : Int)) = false from by simp; omega]
          simp
        · rw [if_neg hkm] at hlen
          refine ⟨got_no hlt h0 hkm _, ?_⟩
          rw [show decide (most ≤ ((got l most k).length : Int)) = true from by simp; omega, show decide (most < ((k + 1 : Nat) : Int)) = true from by simp; omega]
          simp
      generalize l[k]?.getD 0 = x at q1 hnext
      have HX := Lib.hid hnext
      clear hnext hlen hcell1
      go_wp2_with fail
      refine (Push_calls x wr hr).mono ?_
      rintro e w3 ⟨rfl, h3, k3⟩
      rw [HX.out.1, HX.out.2] at h3
      replace h3 := h3.mono (fun i h => UP.out wr i hkp.size h)
      replace k3 := hkp.trans k3 (fun i h => h)
      generalize decide (((got l most k).length : Int) < most) = bb
      go_wp2_with fail
      go_roundw
      case rel => exact ⟨k + 1, by omega, by go_num, h3, k3⟩
      case measure => simp [intOf]; omega
    · have hkk : k = l.length := by omega
      subst hkk
      clear hlt
      go_wp2_with fail
      first | go_end0 | go_ret
      exact ⟨rfl, hr, hkp⟩

set_option maxRecDepth 20000 in
set_option maxHeartbeats 2000000 in
theorem awake_calls (w : World) : Calls Try.prog 27 #[] w fun e w' => e = .returned (.bool true) ∧ Keep (fun _ => False) w w' := by
  go_enter Try.func27, Try.ntmps27
  go_wp2_with fail
  refine (New_at 2 w).mono ?_
  rintro e w1 ⟨b, rfl, h⟩
  rw [show clampN 2 = 2 from by decide] at h
  go_wp2_with fail
  refine (Push_at 4 h).mono ?_
  rintro e w2 ⟨rfl, h2⟩
  rw [show decide ((([] : List Int).length : Int) < 2) = true from by decide]
  rw [show putL [] 2 4 = [4] from by decide, show (false || decide ((2 : Int) ≤ (([] : List Int).length : Int))) = false from by decide] at h2
  go_wp2_with fail
  refine (Push_at 6 h2).mono ?_
  rintro e w3 ⟨rfl, h3⟩
  rw [show decide ((([4] : List Int).length : Int) < 2) = true from by decide]
  rw [show putL [4] 2 6 = [4, 6] from by decide, show (false || decide ((2 : Int) ≤ (([4] : List Int).length : Int))) = false from by decide] at h3
  go_wp2_with fail
  refine (Push_at 8 h3).mono ?_
  rintro e w4 ⟨rfl, h4⟩
  rw [show decide ((([4, 6] : List Int).length : Int) < 2) = false from by decide]
  rw [show putL [4, 6] 2 8 = [4, 6] from by decide, show (false || decide ((2 : Int) ≤ (([4, 6] : List Int).length : Int))) = true from by decide] at h4
  clear h h2 h3
  go_wp2_with fail
  refine (Lost_at h4).mono ?_
  rintro e w5 ⟨rfl, h5⟩
  go_wp2_with fail
  refine (Found_at h5).mono ?_
  rintro e w6 ⟨rfl, h6⟩
  go_wp2_with fail
  refine (Pop_at h6).mono ?_
  rintro e w7 ⟨rfl, h7⟩
  rw [show last0 [4, 6] = 6 from rfl, show some0 [4, 6] = true from rfl]
  rw [show ([4, 6] : List Int).take (([4, 6] : List Int).length - 1) = [4] from rfl] at h7
  clear h4 h5 h6
  go_wp2_with fail
  have hB := Blk.new w7 3 #[.int .i64 1, .int .i64 2, .int .i64 3]
  have hS : SL (w7.alloc (.cells #[.int .i64 1, .int .i64 2, .int .i64 3] 3)) (fun i => i = w7.heap.size) .i64 (.slice (some ⟨w7.heap.size, 0, none⟩) 3 3) [1, 2, 3] := SL.of_blk (l := [1, 2, 3]) hB rfl (by simp)
  have h8 := h7.1.bound.keep (ok' := fun _ => False) ((Keep.refl _ w7).alloc (.cells #[.int .i64 1, .int .i64 2, .int .i64 3] 3)) (fun _ _ h => h)
  have k8 := h7.2.alloc (.cells #[.int .i64 1, .int .i64 2, .int .i64 3] 3)
  refine (Put_calls _ h8 hS (fun i h1 h2 => by omega)).mono ?_
  rintro e w9 ⟨rfl, h9, k9⟩
  rw [show got [1, 2, 3] 2 ([1, 2, 3] : List Int).length = [1, 2] from by decide, show (false || decide ((2 : Int) < (([1, 2, 3] : List Int).length : Int))) = true from by decide] at h9
  have h10 : At w w9 b 2 [1, 2] true := ⟨h9.mono (fun i h => by
    have := h7.2.size
    rcases h with h | h
    · exact h.1
    · have hs : w7.heap.size ≤ (w7.alloc (.cells #[.int .i64 1, .int .i64 2, .int .i64 3] 3)).heap.size := ((Keep.refl (fun _ => False) w7).alloc (.cells #[.int .i64 1, .int .i64 2, .int .i64 3] 3)).size
      omega), k8.trans k9 (fun i h => .inr h.1)⟩
  clear h7 hB hS h8 k8 h9 k9
  go_wp2_with fail
  refine (Lost_at h10).mono ?_
  rintro e w11 ⟨rfl, h11⟩
  go_wp2_with fail
  refine (All_at h11).mono ?_
  rintro e w12 ⟨A, c, rfl, s12, h12⟩
  clear h10 h11
  go_wp2_with fail
  have hB := Blk.new w12 3 #[.int .i64 1, .int .i64 2]
  have hS : SL (w12.alloc (.cells #[.int .i64 1, .int .i64 2] 3)) (fun i => w12.heap.size ≤ i) .i64 (.slice (some ⟨w12.heap.size, 0, none⟩) 2 2) [1, 2] := SL.of_blk (l := [1, 2]) hB (Nat.le_refl _) (by simp)
  have h13 := h12.alloc (.cells #[.int .i64 1, .int .i64 2] 3)
  refine (Ints_calls _ (s12.alloc _) hS).mono ?_
  rintro e w14 ⟨rfl, n, rfl⟩
  rw [show decide (([1, 2] : List Int) = [1, 2]) = true from by decide]
  replace h13 := h13.drewN n
  clear hB hS s12 h12
  go_wp2_with fail
  refine (Len_at h13).mono ?_
  rintro e w15 ⟨rfl, h15⟩
  rw [show ((([1, 2] : List Int).length : Nat) : Int) = 2 from rfl]
  go_wp2_with fail
  go_ret
  exact ⟨by simp, h15.2⟩

theorem awake_at {W w : World} {b : Nat} {most : Int} {L : List Int} {lost : Bool} (h : At W w b most L lost) : Calls Try.prog 27 #[] w fun e w' => e = .returned (.bool true) ∧ At W w' b most L lost :=
  (awake_calls w).mono fun e w' ⟨he, hk⟩ => ⟨he, h.stay hk⟩

theorem Found_nil (w : World) : Calls Try.prog 22 #[.pointer none] w fun e w' => e = .returned (.tuple #[]) ∧ w = w' := by
  go_enter Try.func22, Try.ntmps22
  go_wp2
  first | go_end0 | (refine bodyPost_ret (results_none rfl _ _ _) rfl ?_)
  exact ⟨rfl, rfl⟩
theorem Put_nil (v : Value) (w : World) : Calls Try.prog 23 #[.pointer none, v] w fun e w' => e = .returned (.tuple #[]) ∧ w = w' := by
  go_enter Try.func23, Try.ntmps23
  go_wp2
  first | go_end0 | (refine bodyPost_ret (results_none rfl _ _ _) rfl ?_)
  exact ⟨rfl, rfl⟩

set_option maxHeartbeats 2000000 in
theorem None_calls (x : Int) (w : World) : Calls Try.prog 9 #[.int .i64 x] w fun e w' => e = .returned (.bool true) ∧ Below w.heap.size w w' := by
  go_enter Try.func9, Try.ntmps9
  go_wp2_with (first | (go_at_call 22; refine (Found_nil _).mono ?_; rintro e w1 ⟨rfl, rfl⟩) | (go_at_call 23; refine (Put_nil _ _).mono ?_; rintro e w1 ⟨rfl, rfl⟩) | (go_at_call 27; refine (awake_calls _).mono ?_; rintro e w1 ⟨rfl, k1⟩) | go_in | (go_quiet (fail)))
  all_goals
    go_ret
    have ka := ((Keep.refl (fun _ => False) w).alloc (.cells #[.int .i64 x] 3))
    first | exact ⟨rfl, ((ka.trans k1 (fun i h => .inl h)).drewN _).below (fun i h => h.elim)⟩ | exact ⟨rfl, (ka.trans k1 (fun i h => .inl h)).below (fun i h => h.elim)⟩
end Go.Proofs.Ytdibadfecoipfaa.Gy
