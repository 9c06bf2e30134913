/- Contracts of package buf over a predicate on memory. No condition. -/
import Derived.Test.YtpohemiejbjpnaaProg
import Derived.Test.YtpohemiejbjpnaaQueue
import Derived.Test.YtpohemiejbjpnaaSmall
import Derived.Outline
set_option linter.unusedVariables false
set_option linter.unusedSimpArgs false
namespace Go.Proofs.Ytpohemiejbjpnaa.Bf
open Go.RowKit Go.Proofs.Ytpohemiejbjpnaa.W Go.Proofs.Ytpohemiejbjpnaa.Sm

/-- A row with room for so many: block b is a Buffer that holds L. -/
def BRep (w : World) (ok : Nat → Prop) (b : Nat) (most : Int) (L : List Int) : Prop :=
  ∃ (A : Option Addr) (c : Nat), ok b ∧ 0 ≤ most ∧ most ≤ 1048576 ∧ (L.length : Int) ≤ most ∧ Blk w b 63 #[.int .i64 most, .slice A L.length c] ∧ QR w ok 3 A L.length c (L.map (Value.int .i64))

section
variable {w w' : World} {ok ok' : Nat → Prop} {b : Nat} {most : Int} {L : List Int}
theorem BRep.keep (h : BRep w ok b most L) (hk : Keep ok' w w') (hn : ∀ i, ok i → ok' i → False) : BRep w' ok b most L := by
  obtain ⟨A, c, ob, h0, h1, h2, hb, hq⟩ := h
  exact ⟨A, c, ob, h0, h1, h2, hk.blk hb (fun x => hn _ ob x), hq.keep hk hn⟩
theorem BRep.mono (h : BRep w ok b most L) (hs : ∀ i, ok i → ok' i) : BRep w ok' b most L := by
  obtain ⟨A, c, ob, h0, h1, h2, hb, hq⟩ := h
  exact ⟨A, c, hs _ ob, h0, h1, h2, hb, hq.mono hs⟩
theorem BRep.drewN (h : BRep w ok b most L) (n : Nat) : BRep (w.drewN n) ok b most L := h
theorem BRep.bound (h : BRep w ok b most L) : BRep w (fun i => ok i ∧ i < w.heap.size) b most L := by
  obtain ⟨A, c, ob, h0, h1, h2, hb, hq⟩ := h
  exact ⟨A, c, ⟨ob, hb.lt⟩, h0, h1, h2, hb, hq.bound⟩
end

def clampN (n : Int) : Int := if n < 0 then 0 else if 1048576 < n then 1048576 else n
theorem New_calls (n : Int) (w : World) :
    Calls Try.prog 16 #[.int .i64 n] w fun e w' => ∃ b, e = .returned (.pointer (some ⟨b, 0, none⟩)) ∧ BRep w' (fun i => w.heap.size ≤ i) b (clampN n) [] ∧ Keep (fun _ => False) w w' := by
  obtain ⟨m, hm⟩ : ∃ m, (if 1048576 < n then 1048576 else n) = m := ⟨_, rfl⟩
  obtain ⟨c, hc⟩ : ∃ c, (if 0 < m then m else 0) = c := ⟨_, rfl⟩
  have c0 : 0 ≤ c := by rw [← hc]; split <;> omega
  have c1 : c ≤ 1048576 := by rw [← hc, ← hm]; (repeat' split) <;> omega
  have e : clampN n = c := by unfold clampN; rw [← hc, ← hm]; (repeat' split) <;> omega
  rw [e]
  clear e
  go_enter Try.func16, Try.ntmps16
  go_wp2
  go_ret
  exact ⟨_, rfl, ⟨none, 0, by simp, c0, c1, by simpa using c0, Blk.new w _ _, QR.nil _ _ _⟩, (Keep.refl _ _).alloc _⟩

theorem Joins_form {w : World} {base size n : Nat} {e : TypeId} {v : Value} {xs : List Value} (h : w.ownsRow base e size v n xs) (hn : 0 < n) : ∃ g cap, v = .slice (some ⟨g, 0, none⟩) n cap ∧ base ≤ g := by
  rcases h.2 with ⟨_, h0⟩ | ⟨g, cap, _, hv, hb, _⟩
  · omega
  · exact ⟨g, cap, hv, hb⟩

theorem Len_calls {ok : Nat → Prop} {b : Nat} {most : Int} {L : List Int} (w : World) (hr : BRep w ok b most L) :
    Calls Try.prog 18 #[.pointer (some ⟨b, 0, none⟩)] w fun e w' => e = .returned (.int .i64 L.length) ∧ w = w' := by
  obtain ⟨A, c, ob, h0, h1, h2, hb, hq⟩ := hr
  have e1 := hb.cell 1
  simp at e1
  go_enter Try.func18, Try.ntmps18
  go_wp2
  go_ret
  exact ⟨rfl, rfl⟩

def putL (L : List Int) (most x : Int) : List Int := if (L.length : Int) < most then L ++ [x] else L

theorem Put_calls {ok : Nat → Prop} {b : Nat} {most : Int} {L : List Int} (x : Int) (w : World) (hr : BRep w ok b most L) :
    Calls Try.prog 20 #[.pointer (some ⟨b, 0, none⟩), .int .i64 x] w fun e w' =>
      e = .returned (.bool (decide ((L.length : Int) < most))) ∧ BRep w' (fun k => ok k ∨ w.heap.size ≤ k) b most (putL L most x) ∧ Keep ok w w' := by
  have hr' := hr
  obtain ⟨A, c, ob, h0, h1, h2, hb, hq⟩ := hr
  have e0 := hb.cell 0
  have e1 := hb.cell 1
  simp at e0 e1
  unfold putL
  by_cases hlt : (L.length : Int) < most
  · have hd : decide ((L.length : Int) < most) = true := by simpa using hlt
    have hd2 : decide (most ≤ (L.length : Int)) = false := by simp; omega
    rw [hd, if_pos hlt]
    clear hd
    obtain ⟨i, hi, hz, hs, hby⟩ := info_parts info_int
    have hqn := hq.ne_ hb (by decide)
    go_enter Try.func20, Try.ntmps20
    go_wp2
    go_quiet (fail)
    have hbq : Blk ((w.drewN nq).alloc (.cells #[.int .i64 x] 3)) b 63 #[.int .i64 most, .slice A L.length c] := (hb.drewN nq).alloc _
    have hqq : QR ((w.drewN nq).alloc (.cells #[.int .i64 x] 3)) (fun i => ok i ∧ i ≠ b) 3 A L.length c (L.map (Value.int .i64)) := (hqn.drewN nq).alloc _
    have hkk : Keep ok w ((w.drewN nq).alloc (.cells #[.int .i64 x] 3)) := ((Keep.refl ok w).drewN nq).alloc _
    have hbl := hb.lt
    go_wp2_with (at_builtin; refine wpList_append_q rfl _ _ 26 rfl 3 i (.int .i64 0) 8 Try.underlying26 hi hz hs hby rfl A L.length c (L.map (Value.int .i64)) rfl hqq w.heap.size (.int .i64 x) rfl ?c1 rfl ?c2 ?c3 ?_)
    case c1 => simpa using (Blk.new (w.drewN nq) 3 #[.int .i64 x]).cell 0
    case c2 => omega
    case c3 => omega
    intro A' c' w1 hq1 hk1
    have hb1 : Blk w1 b 63 #[.int .i64 most, .slice A L.length c] := hk1.blk hbq (fun h => h.2 rfl)
    have f1 := hb1.cell 1
    simp at f1
    have f2 := hb1.frozen 1
    have hb2 := hb1.set_ 1 (.slice A' (L.length + 1) c')
    have hq2 := hq1.far (p := ⟨b, 1, none⟩) (by rintro (h | h) <;> first | exact h.2 rfl | omega | (simp at h; omega)) (.slice A' (L.length + 1) c')
    have hk2 : Keep ok w (w1.setCell ⟨b, 1, none⟩ (.slice A' (L.length + 1) c')) := (hkk.trans hk1 (fun i h => .inl h.1)).set_ (.inl ob) _
    have hR : BRep (w1.setCell ⟨b, 1, none⟩ (.slice A' (L.length + 1) c')) (fun k => ok k ∨ w.heap.size ≤ k) b most (L ++ [x]) :=
      ⟨A', c', .inl ob, h0, h1, by simp; omega, by simpa using hb2, by
        have := hq2.mono (ok' := fun k => ok k ∨ w.heap.size ≤ k) (by rintro i (h | h) <;> first | exact .inl h.1 | exact .inr (by omega) | (simp at h; exact .inr (by omega)))
        simpa using this⟩
    clear hbq hqq hkk hq1 hk1 hb1 hb2 hq2 e0 e1 hqn hq hb hr'
    go_wp2
    go_ret
    exact ⟨rfl, hR, hk2⟩
  · have hd : decide ((L.length : Int) < most) = false := by simpa using hlt
    have hd2 : decide (most ≤ (L.length : Int)) = true := by simp; omega
    rw [hd, if_neg hlt]
    clear hd
    go_enter Try.func20, Try.ntmps20
    go_wp2
    go_quiet (fail)
    go_wp2
    go_ret
    exact ⟨rfl, (hr'.drewN _).mono (fun i h => Or.inl h), (Keep.refl _ _).drewN _⟩

/-- The first one, or 0; is there one? -/
def fst0 : List Int → Int | [] => 0 | x :: _ => x
def some0 : List Int → Bool | [] => false | _ :: _ => true

theorem take_calls {ok : Nat → Prop} {b : Nat} {most : Int} {L : List Int} (w : World) (hr : BRep w ok b most L) :
    Calls Try.prog 28 #[.pointer (some ⟨b, 1, none⟩)] w fun e w' =>
      e = .returned (.tuple #[.int .i64 (fst0 L), .bool (some0 L)]) ∧ BRep w' ok b most L.tail ∧ Keep ok w w' := by
  have hr' := hr
  obtain ⟨A, c, ob, h0, h1, h2, hb, hq⟩ := hr
  have e1 := hb.cell 1
  simp at e1
  cases L with
  | nil =>
    go_enter Try.func28, Try.ntmps28
    go_wp2
    go_ret2
    exact ⟨rfl, hr', Keep.refl _ _⟩
  | cons x L =>
    obtain ⟨g, off, hA, hg, hgl, hcell, hfz⟩ := hq.at_ (i := 0) (by simp)
    have c0 := hcell 0 (by simp)
    simp at c0
    have f1 := hb.frozen 1
    have hn : ((x :: L).length : Int) = (L.length : Int) + 1 := by simp
    obtain ⟨A2, hA2⟩ : ∃ A2, (if c = 1 then A else A.map (·.add 1)) = A2 := ⟨_, rfl⟩
    have hq2 := hq.tail (by simp)
    rw [hA2] at hq2
    have hc1 : 1 ≤ c := by have := hq.2.1; simp at this; omega
    have hc2 := hq.2.2.1
    have hsl : ∀ W : World, (Instr.slice 26 (.slice A (L.length + 1) c) (some (.int .i64 1)) none none).run Try.prog W = .ok (.slice A2 L.length (c - 1)) W := by
      intro W
      obtain ⟨i, hi, hz, hs, hby⟩ := info_parts info_int
      rw [← hA2]
      exact run_cut1 Try.underlying26 hi hs A (L.length + 1) c (by omega) W
    have hq3 := (hq2.ne_ hb (by decide)).far (p := ⟨b, 1, none⟩) (fun h => h.2 rfl) (.slice A2 L.length (c - 1))
    have hb3 := hb.set_ 1 (.slice A2 L.length (c - 1))
    have hR : BRep (w.setCell ⟨b, 1, none⟩ (.slice A2 L.length (c - 1))) ok b most L :=
      ⟨A2, c - 1, ob, h0, h1, by simp at h2; omega, by simpa using hb3, by simpa using hq3.mono (fun i h => h.1)⟩
    have hK : Keep ok w (w.setCell ⟨b, 1, none⟩ (.slice A2 L.length (c - 1))) := (Keep.refl _ _).set_ (.inl ob) _
    subst hA
    clear hA2 hq2 hq3 hb3 hq hr' hb hcell hn
    simp only [List.length_cons] at e1
    go_enter Try.func28, Try.ntmps28
    go_wp2
    go_ret2
    exact ⟨rfl, hR, hK⟩

theorem Take_calls {ok : Nat → Prop} {b : Nat} {most : Int} {L : List Int} (w : World) (hr : BRep w ok b most L) :
    Calls Try.prog 22 #[.pointer (some ⟨b, 0, none⟩)] w fun e w' =>
      e = .returned (.tuple #[.int .i64 (fst0 L), .bool (some0 L)]) ∧ BRep w' ok b most L.tail ∧ Keep ok w w' := by
  go_enter Try.func22, Try.ntmps22
  go_wp2_with fail
  refine (take_calls w hr).mono ?_
  rintro e w1 ⟨rfl, h1, k1⟩
  go_wp2_with fail
  go_ret2
  exact ⟨rfl, h1, k1⟩

end Go.Proofs.Ytpohemiejbjpnaa.Bf
