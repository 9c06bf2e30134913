/- Texts of the whole heap, joined: GreySep Buf BufSep. No condition beside those that each lemma names. -/
import Derived.Test.YtihmkkjmnbehbaaGreatMg12
import Derived.Test.YtihmkkjmnbehbaaGreatMg01
import Derived.Test.YtihmkkjmnbehbaaGreatProg
import Derived.Test.YtihmkkjmnbehbaaGreatMg00
import Derived.Test.YtihmkkjmnbehbaaGreatMg11
import Derived.Outline
/- Stacks as parts of memory. No condition. -/
set_option linter.unusedVariables false
set_option linter.unusedSimpArgs false
namespace Go.Proofs.YtihmkkjmnbehbaaGreat.Gy
open Go.RowKit Go.Proofs.YtihmkkjmnbehbaaGreat.W Go.Proofs.YtihmkkjmnbehbaaGreat.Sm

def Stk (b : Nat) (most : Int) (L : List Int) (lost : Bool) : Pr := ⟨fun w o => GRep w o b most L lost, fun h k hn => h.keep k hn, fun h hs => h.mono hs, fun h => h.bound⟩
section
variable {W w : World} {oo : Nat → Prop} {l : List Pr} {b : Nat} {most : Int} {L : List Int} {lost : Bool}
theorem Stk_b (h : SepO W oo w l) (k : Nat) (hk : l[k]? = some (Stk b most L lost)) : (L.length : Int) ≤ most ∧ 0 ≤ most ∧ most ≤ 1048576 := by
  obtain ⟨o, ⟨A, c, _, h0, h1, h2, _⟩, _⟩ := h.get k hk
  exact ⟨h2, h0, h1⟩
theorem New_sep (n : Int) (h : SepO W oo w l) : Calls Tryz.prog 68 #[.int .i64 n] w fun e w' => ∃ b, e = .returned (.pointer (some ⟨b, 0, none⟩)) ∧ SepO W oo w' (l ++ [Stk b (clampN n) [] false]) :=
  (New_calls n w).mono fun e w' ⟨b, he, hr, hk⟩ => ⟨b, he, h.add hk hr⟩
theorem Len_sep (h : SepO W oo w l) (k : Nat) (hk : l[k]? = some (Stk b most L lost)) : Calls Tryz.prog 172 #[.pointer (some ⟨b, 0, none⟩)] w fun e w' => e = .returned (.int .i64 L.length) ∧ w = w' := by
  obtain ⟨o, hp, _, hup⟩ := h.open_ k hk
  exact Len_calls w hp
theorem Lost_sep (h : SepO W oo w l) (k : Nat) (hk : l[k]? = some (Stk b most L lost)) : Calls Tryz.prog 146 #[.pointer (some ⟨b, 0, none⟩)] w fun e w' => e = .returned (.bool lost) ∧ SepO W oo w' l := by
  obtain ⟨o, hp, _, hup⟩ := h.open_ k hk
  exact (Lost_calls w hp).mono fun e w' ⟨he, n, hw⟩ => ⟨he, hw ▸ h.drewN n⟩
theorem Found_sep (h : SepO W oo w l) (k : Nat) (hk : l[k]? = some (Stk b most L lost)) : Calls Tryz.prog 173 #[.pointer (some ⟨b, 0, none⟩)] w fun e w' => e = .returned (.tuple #[]) ∧ SepO W oo w' (l.set k (Stk b most L false)) := by
  obtain ⟨o, hp, _, hup⟩ := h.open0 k hk
  exact (Found_calls w hp).mono fun e w' ⟨he, hr, hkk⟩ => ⟨he, hup w' (Stk b most L false) hr hkk⟩
theorem Push_sep (x : Int) (h : SepO W oo w l) (k : Nat) (hk : l[k]? = some (Stk b most L lost)) : Calls Tryz.prog 118 #[.pointer (some ⟨b, 0, none⟩), .int .i64 x] w fun e w' =>
    e = .returned (.bool (decide ((L.length : Int) < most))) ∧ SepO W oo w' (l.set k (Stk b most (putL L most x) (lost || decide (most ≤ (L.length : Int))))) := by
  obtain ⟨o, hp, _, hup⟩ := h.open_ k hk
  exact (Push_calls x w hp).mono fun e w' ⟨he, hr, hkk⟩ => ⟨he, hup w' (Stk _ _ _ _) hr hkk⟩
theorem Pop_sep (h : SepO W oo w l) (k : Nat) (hk : l[k]? = some (Stk b most L lost)) : Calls Tryz.prog 143 #[.pointer (some ⟨b, 0, none⟩)] w fun e w' =>
    e = .returned (.tuple #[.int .i64 (last0 L), .bool (some0 L)]) ∧ SepO W oo w' (l.set k (Stk b most (L.take (L.length - 1)) lost)) := by
  obtain ⟨o, hp, _, hup⟩ := h.open0 k hk
  exact (Pop_calls w hp).mono fun e w' ⟨he, hr, hkk⟩ => ⟨he, hup w' (Stk _ _ _ _) hr hkk⟩
theorem All_sep (h : SepO W oo w l) (k : Nat) (hk : l[k]? = some (Stk b most L lost)) : Calls Tryz.prog 160 #[.pointer (some ⟨b, 0, none⟩)] w fun e w' =>
    ∃ A c, e = .returned (.slice A L.length c) ∧ SL w' (fun i => w.heap.size ≤ i) .i64 (.slice A L.length c) L ∧ SepO W oo w' l ∧ w.heap.size ≤ w'.heap.size := by
  obtain ⟨o, hp, _, hup⟩ := h.open_ k hk
  exact (All_calls w hp).mono fun e w' ⟨A, c, he, hs, hkk⟩ => ⟨A, c, he, hs, h.stay hkk, hkk.size⟩
theorem Put_sep {ok' : Nat → Prop} {v : Value} {M : List Int} (h : SepO W oo w l) (k : Nat) (hk : l[k]? = some (Stk b most L lost)) (hl : SL w ok' .i64 v M) (hn : ∀ i, ok' i → i < W.heap.size ∧ ¬ oo i) :
    Calls Tryz.prog 161 #[.pointer (some ⟨b, 0, none⟩), v] w fun e w' => e = .returned (.tuple #[]) ∧ SepO W oo w' (l.set k (Stk b most (got M most M.length) (lost || decide (most < (M.length : Int))))) := by
  obtain ⟨o, hp, ho, hup⟩ := h.open_ k hk
  exact (Put_calls w hp hl (fun i h1 h2 => by have h3 := (ho i h1).1; have h4 := hn i h2; rcases h3 with h3 | h3 <;> first | exact h4.2 h3 | (have := h4.1; omega))).mono fun e w' ⟨he, hr, hkk⟩ => ⟨he, hup w' (Stk _ _ _ _) hr hkk⟩
end
/-- What a stack holds behind one more of a list. -/
theorem got_app {l : List Int} {most : Int} {k : Nat} (h : k < l.length) (hk : (k : Int) < most) : got l most (k + 1) = got l most k ++ [l[k]?.getD 0] := by
  have h1 := got_len l most (k := k) (by omega) (by omega)
  rw [if_pos hk] at h1
  rw [← got_ok h hk, putL_ok _ (by omega)]
theorem got_stop {l : List Int} {most : Int} {k : Nat} (h : k < l.length) (h0 : 0 ≤ most) (hk : ¬ (k : Int) < most) : got l most (k + 1) = got l most k := by
  rw [← got_no h h0 hk 0, putL_no]
  have h1 := got_len l most (k := k) (by omega) (by omega)
  rw [if_neg hk] at h1
  omega
end Go.Proofs.YtihmkkjmnbehbaaGreat.Gy
/- Contracts of package buf over a predicate on memory. No condition. -/
set_option linter.unusedVariables false
set_option linter.unusedSimpArgs false
namespace Go.Proofs.YtihmkkjmnbehbaaGreat.Bf
open Go.RowKit Go.Proofs.YtihmkkjmnbehbaaGreat.W Go.Proofs.YtihmkkjmnbehbaaGreat.Sm

/-- A row with room for so many: block b is a Buffer that holds L. -/
def BRep (w : World) (ok : Nat → Prop) (b : Nat) (most : Int) (L : List Int) : Prop :=
  ∃ (A : Option Addr) (c : Nat), ok b ∧ 0 ≤ most ∧ most ≤ 1048576 ∧ (L.length : Int) ≤ most ∧ Blk w b 177 #[.int .i64 most, .slice A L.length c] ∧ QR w ok 3 A L.length c (L.map (Value.int .i64))

section
variable {w w' : World} {ok ok' : Nat → Prop} {b : Nat} {most : Int} {L : List Int}
theorem BRep.keep (h : BRep w ok b most L) (hk : Keep ok' w w') (hn : ∀ i, ok i → ok' i → False) : BRep w' ok b most L := by
  obtain ⟨A, c, ob, h0, h1, h2, hb, hq⟩ := h
  exact ⟨A, c, ob, h0, h1, h2, hk.blk hb (fun x => hn _ ob x), hq.keep hk hn⟩
theorem BRep.mono (h : BRep w ok b most L) (hs : ∀ i, ok i → ok' i) : BRep w ok' b most L := by
  obtain ⟨A, c, ob, h0, h1, h2, hb, hq⟩ := h
  exact ⟨A, c, hs _ ob, h0, h1, h2, hb, hq.mono hs⟩
theorem BRep.drewN (h : BRep w ok b most L) (n : Nat) : BRep (w.drewN n) ok b most L := h
theorem BRep.bound (h : BRep w ok b most L) : BRep w (fun i => ok i ∧ i < w.heap.size) b most L := by
  obtain ⟨A, c, ob, h0, h1, h2, hb, hq⟩ := h
  exact ⟨A, c, ⟨ob, hb.lt⟩, h0, h1, h2, hb, hq.bound⟩
end

def clampN (n : Int) : Int := if n < 0 then 0 else if 1048576 < n then 1048576 else n
theorem New_calls (n : Int) (w : World) :
    Calls Tryz.prog 104 #[.int .i64 n] w fun e w' => ∃ b, e = .returned (.pointer (some ⟨b, 0, none⟩)) ∧ BRep w' (fun i => w.heap.size ≤ i) b (clampN n) [] ∧ Keep (fun _ => False) w w' := by
  obtain ⟨m, hm⟩ : ∃ m, (if 1048576 < n then 1048576 else n) = m := ⟨_, rfl⟩
  obtain ⟨c, hc⟩ : ∃ c, (if 0 < m then m else 0) = c := ⟨_, rfl⟩
  have c0 : 0 ≤ c := by rw [← hc]; split <;> omega
  have c1 : c ≤ 1048576 := by rw [← hc, ← hm]; (repeat' split) <;> omega
  have e : clampN n = c := by unfold clampN; rw [← hc, ← hm]; (repeat' split) <;> omega
  rw [e]
  clear e
  go_enter Tryz.func104, Tryz.ntmps104
  go_wp2
  go_ret
  exact ⟨_, rfl, ⟨none, 0, by simp, c0, c1, by simpa using c0, Blk.new w _ _, QR.nil _ _ _⟩, (Keep.refl _ _).alloc _⟩

theorem Joins_form {w : World} {base size n : Nat} {e : TypeId} {v : Value} {xs : List Value} (h : w.ownsRow base e size v n xs) (hn : 0 < n) : ∃ g cap, v = .slice (some ⟨g, 0, none⟩) n cap ∧ base ≤ g := by
  rcases h.2 with ⟨_, h0⟩ | ⟨g, cap, _, hv, hb, _⟩
  · omega
  · exact ⟨g, cap, hv, hb⟩

theorem Len_calls {ok : Nat → Prop} {b : Nat} {most : Int} {L : List Int} (w : World) (hr : BRep w ok b most L) :
    Calls Tryz.prog 154 #[.pointer (some ⟨b, 0, none⟩)] w fun e w' => e = .returned (.int .i64 L.length) ∧ w = w' := by
  obtain ⟨A, c, ob, h0, h1, h2, hb, hq⟩ := hr
  have e1 := hb.cell 1
  simp at e1
  go_enter Tryz.func154, Tryz.ntmps154
  go_wp2
  go_ret
  exact ⟨rfl, rfl⟩

def putL (L : List Int) (most x : Int) : List Int := if (L.length : Int) < most then L ++ [x] else L

theorem Put_calls {ok : Nat → Prop} {b : Nat} {most : Int} {L : List Int} (x : Int) (w : World) (hr : BRep w ok b most L) :
    Calls Tryz.prog 141 #[.pointer (some ⟨b, 0, none⟩), .int .i64 x] w fun e w' =>
      e = .returned (.bool (decide ((L.length : Int) < most))) ∧ BRep w' (fun k => ok k ∨ w.heap.size ≤ k) b most (putL L most x) ∧ Keep ok w w' := by
  have hr' := hr
  obtain ⟨A, c, ob, h0, h1, h2, hb, hq⟩ := hr
  have e0 := hb.cell 0
  have e1 := hb.cell 1
  simp at e0 e1
  unfold putL
  by_cases hlt : (L.length : Int) < most
  · have hd : decide ((L.length : Int) < most) = true := by simpa using hlt
    have hd2 : decide (most ≤ (L.length : Int)) = false := by simp; omega
    rw [hd, if_pos hlt]
    clear hd
    obtain ⟨i, hi, hz, hs, hby⟩ := info_parts info_int
    have hqn := hq.ne_ hb (by decide)
    go_enter Tryz.func141, Tryz.ntmps141
    go_wp2
    go_quiet (fail)
    have hbq : Blk ((w.drewN nq).alloc (.cells #[.int .i64 x] 3)) b 177 #[.int .i64 most, .slice A L.length c] := (hb.drewN nq).alloc _
    have hqq : QR ((w.drewN nq).alloc (.cells #[.int .i64 x] 3)) (fun i => ok i ∧ i ≠ b) 3 A L.length c (L.map (Value.int .i64)) := (hqn.drewN nq).alloc _
    have hkk : Keep ok w ((w.drewN nq).alloc (.cells #[.int .i64 x] 3)) := ((Keep.refl ok w).drewN nq).alloc _
    have hbl := hb.lt
    go_wp2_with (at_builtin; refine wpList_append_q rfl _ _ 53 rfl 3 i (.int .i64 0) 8 Tryz.underlying53 hi hz hs hby rfl A L.length c (L.map (Value.int .i64)) rfl hqq w.heap.size (.int .i64 x) rfl ?c1 rfl ?c2 ?c3 ?_)
    case c1 => simpa using (Blk.new (w.drewN nq) 3 #[.int .i64 x]).cell 0
    case c2 => omega
    case c3 => omega
    intro A' c' w1 hq1 hk1
    have hb1 : Blk w1 b 177 #[.int .i64 most, .slice A L.length c] := hk1.blk hbq (fun h => h.2 rfl)
    have f1 := hb1.cell 1
    simp at f1
    have f2 := hb1.frozen 1
    have hb2 := hb1.set_ 1 (.slice A' (L.length + 1) c')
    have hq2 := hq1.far (p := ⟨b, 1, none⟩) (by rintro (h | h) <;> first | exact h.2 rfl | omega | (simp at h; omega)) (.slice A' (L.length + 1) c')
    have hk2 : Keep ok w (w1.setCell ⟨b, 1, none⟩ (.slice A' (L.length + 1) c')) := (hkk.trans hk1 (fun i h => .inl h.1)).set_ (.inl ob) _
    have hR : BRep (w1.setCell ⟨b, 1, none⟩ (.slice A' (L.length + 1) c')) (fun k => ok k ∨ w.heap.size ≤ k) b most (L ++ [x]) :=
      ⟨A', c', .inl ob, h0, h1, by simp; omega, by simpa using hb2, by
        have := hq2.mono (ok' := fun k => ok k ∨ w.heap.size ≤ k) (by rintro i (h | h) <;> first | exact .inl h.1 | exact .inr (by omega) | (simp at h; exact .inr (by omega)))
        simpa using this⟩
    clear hbq hqq hkk hq1 hk1 hb1 hb2 hq2 e0 e1 hqn hq hb hr'
    go_wp2
    go_ret
    exact ⟨rfl, hR, hk2⟩
  · have hd : decide ((L.length : Int) < most) = false := by simpa using hlt
    have hd2 : decide (most ≤ (L.length : Int)) = true := by simp; omega
    rw [hd, if_neg hlt]
    clear hd
    go_enter Tryz.func141, Tryz.ntmps141
    go_wp2
    go_quiet (fail)
    go_wp2
    go_ret
    exact ⟨rfl, (hr'.drewN _).mono (fun i h => Or.inl h), (Keep.refl _ _).drewN _⟩

/-- The first one, or 0; is there one? -/
def fst0 : List Int → Int | [] => 0 | x :: _ => x
def some0 : List Int → Bool | [] => false | _ :: _ => true

theorem take_calls {ok : Nat → Prop} {b : Nat} {most : Int} {L : List Int} (w : World) (hr : BRep w ok b most L) :
    Calls Tryz.prog 176 #[.pointer (some ⟨b, 1, none⟩)] w fun e w' =>
      e = .returned (.tuple #[.int .i64 (fst0 L), .bool (some0 L)]) ∧ BRep w' ok b most L.tail ∧ Keep ok w w' := by
  have hr' := hr
  obtain ⟨A, c, ob, h0, h1, h2, hb, hq⟩ := hr
  have e1 := hb.cell 1
  simp at e1
  cases L with
  | nil =>
    go_enter Tryz.func176, Tryz.ntmps176
    go_wp2
    go_ret2
    exact ⟨rfl, hr', Keep.refl _ _⟩
  | cons x L =>
    obtain ⟨g, off, hA, hg, hgl, hcell, hfz⟩ := hq.at_ (i := 0) (by simp)
    have c0 := hcell 0 (by simp)
    simp at c0
    have f1 := hb.frozen 1
    have hn : ((x :: L).length : Int) = (L.length : Int) + 1 := by simp
    obtain ⟨A2, hA2⟩ : ∃ A2, (if c = 1 then A else A.map (·.add 1)) = A2 := ⟨_, rfl⟩
    have hq2 := hq.tail (by simp)
    rw [hA2] at hq2
    have hc1 : 1 ≤ c := by have := hq.2.1; simp at this; omega
    have hc2 := hq.2.2.1
    have hsl : ∀ W : World, (Instr.slice 53 (.slice A (L.length + 1) c) (some (.int .i64 1)) none none).run Tryz.prog W = .ok (.slice A2 L.length (c - 1)) W := by
      intro W
      obtain ⟨i, hi, hz, hs, hby⟩ := info_parts info_int
      rw [← hA2]
      exact run_cut1 Tryz.underlying53 hi hs A (L.length + 1) c (by omega) W
    have hq3 := (hq2.ne_ hb (by decide)).far (p := ⟨b, 1, none⟩) (fun h => h.2 rfl) (.slice A2 L.length (c - 1))
    have hb3 := hb.set_ 1 (.slice A2 L.length (c - 1))
    have hR : BRep (w.setCell ⟨b, 1, none⟩ (.slice A2 L.length (c - 1))) ok b most L :=
      ⟨A2, c - 1, ob, h0, h1, by simp at h2; omega, by simpa using hb3, by simpa using hq3.mono (fun i h => h.1)⟩
    have hK : Keep ok w (w.setCell ⟨b, 1, none⟩ (.slice A2 L.length (c - 1))) := (Keep.refl _ _).set_ (.inl ob) _
    subst hA
    clear hA2 hq2 hq3 hb3 hq hr' hb hcell hn
    simp only [List.length_cons] at e1
    go_enter Tryz.func176, Tryz.ntmps176
    go_wp2
    go_ret2
    exact ⟨rfl, hR, hK⟩

theorem Take_calls {ok : Nat → Prop} {b : Nat} {most : Int} {L : List Int} (w : World) (hr : BRep w ok b most L) :
    Calls Tryz.prog 156 #[.pointer (some ⟨b, 0, none⟩)] w fun e w' =>
      e = .returned (.tuple #[.int .i64 (fst0 L), .bool (some0 L)]) ∧ BRep w' ok b most L.tail ∧ Keep ok w w' := by
  go_enter Tryz.func156, Tryz.ntmps156
  go_wp2_with fail
  refine (take_calls w hr).mono ?_
  rintro e w1 ⟨rfl, h1, k1⟩
  go_wp2_with fail
  go_ret2
  exact ⟨rfl, h1, k1⟩

end Go.Proofs.YtihmkkjmnbehbaaGreat.Bf
/- Rows with room for so many as parts of memory. No condition. -/
set_option linter.unusedVariables false
set_option linter.unusedSimpArgs false
namespace Go.Proofs.YtihmkkjmnbehbaaGreat.Bf
open Go.RowKit Go.Proofs.YtihmkkjmnbehbaaGreat.W

def Bfr (b : Nat) (most : Int) (L : List Int) : Pr := ⟨fun w o => BRep w o b most L, fun h k hn => h.keep k hn, fun h hs => h.mono hs, fun h => h.bound⟩
section
variable {W w : World} {oo : Nat → Prop} {l : List Pr} {b : Nat} {most : Int} {L : List Int}
theorem Bfr_b (h : SepO W oo w l) (k : Nat) (hk : l[k]? = some (Bfr b most L)) : (L.length : Int) ≤ most ∧ 0 ≤ most ∧ most ≤ 1048576 := by
  obtain ⟨o, ⟨A, c, _, h0, h1, h2, _⟩, _⟩ := h.get k hk
  exact ⟨h2, h0, h1⟩
theorem New_sep (n : Int) (h : SepO W oo w l) : Calls Tryz.prog 104 #[.int .i64 n] w fun e w' => ∃ b, e = .returned (.pointer (some ⟨b, 0, none⟩)) ∧ SepO W oo w' (l ++ [Bfr b (clampN n) []]) :=
  (New_calls n w).mono fun e w' ⟨b, he, hr, hk⟩ => ⟨b, he, h.add (P := Bfr b (clampN n) []) hk hr⟩
theorem Len_sep (h : SepO W oo w l) (k : Nat) (hk : l[k]? = some (Bfr b most L)) : Calls Tryz.prog 154 #[.pointer (some ⟨b, 0, none⟩)] w fun e w' => e = .returned (.int .i64 L.length) ∧ w = w' := by
  obtain ⟨o, hp, _, hup⟩ := h.open_ k hk
  exact Len_calls w hp
theorem Put_sep (x : Int) (h : SepO W oo w l) (k : Nat) (hk : l[k]? = some (Bfr b most L)) : Calls Tryz.prog 141 #[.pointer (some ⟨b, 0, none⟩), .int .i64 x] w fun e w' =>
    e = .returned (.bool (decide ((L.length : Int) < most))) ∧ SepO W oo w' (l.set k (Bfr b most (putL L most x))) := by
  obtain ⟨o, hp, _, hup⟩ := h.open_ k hk
  exact (Put_calls x w hp).mono fun e w' ⟨he, hr, hkk⟩ => ⟨he, hup w' (Bfr _ _ _) hr hkk⟩
theorem Take_sep (h : SepO W oo w l) (k : Nat) (hk : l[k]? = some (Bfr b most L)) : Calls Tryz.prog 156 #[.pointer (some ⟨b, 0, none⟩)] w fun e w' =>
    e = .returned (.tuple #[.int .i64 (fst0 L), .bool (some0 L)]) ∧ SepO W oo w' (l.set k (Bfr b most L.tail)) := by
  obtain ⟨o, hp, _, hup⟩ := h.open0 k hk
  exact (Take_calls w hp).mono fun e w' ⟨he, hr, hkk⟩ => ⟨he, hup w' (Bfr _ _ _) hr hkk⟩
end
theorem putL_ok {L : List Int} {most : Int} (x : Int) (h : (L.length : Int) < most) : putL L most x = L ++ [x] := by unfold putL; rw [if_pos h]
theorem putL_no {L : List Int} {most : Int} (x : Int) (h : ¬ (L.length : Int) < most) : putL L most x = L := by unfold putL; rw [if_neg h]
end Go.Proofs.YtihmkkjmnbehbaaGreat.Bf
