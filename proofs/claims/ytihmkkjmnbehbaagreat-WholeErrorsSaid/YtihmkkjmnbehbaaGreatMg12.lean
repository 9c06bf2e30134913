/- Texts of the whole heap, joined: Table Grey GreyLaws. No condition beside those that each lemma names. -/
import Derived.Test.YtihmkkjmnbehbaaGreatProg
import Derived.Test.YtihmkkjmnbehbaaGreatMg00
import Derived.Test.YtihmkkjmnbehbaaGreatMg11
import Derived.Outline
/- Contracts of package table over a predicate on memory. No condition. -/
set_option linter.unusedVariables false
set_option linter.unusedSimpArgs false
namespace Go.Proofs.YtihmkkjmnbehbaaGreat.Tab
open Go.RowKit Go.Proofs.YtihmkkjmnbehbaaGreat.W Go.Proofs.YtihmkkjmnbehbaaGreat.Sm

/-- Handles: block b is a Table that holds L. -/
def TRep (w : World) (ok : Nat → Prop) (b : Nat) (L : List Int) : Prop :=
  ∃ g, ok b ∧ ok g ∧ L.length ≤ 64 ∧ Blk w b 88 #[.slice (some ⟨g, 0, none⟩) L.length L.length] ∧ Blk w g 3 (ints L)

theorem TRep.keep {w w' : World} {ok ok' : Nat → Prop} {b : Nat} {L : List Int} (h : TRep w ok b L) (hk : Keep ok' w w') (hn : ∀ i, ok i → ok' i → False) : TRep w' ok b L := by
  obtain ⟨g, ob, og, hl, hb, hg⟩ := h
  exact ⟨g, ob, og, hl, hk.blk hb (fun x => hn _ ob x), hk.blk hg (fun x => hn _ og x)⟩
theorem TRep.mono {w : World} {ok ok' : Nat → Prop} {b : Nat} {L : List Int} (h : TRep w ok b L) (hs : ∀ i, ok i → ok' i) : TRep w ok' b L := by
  obtain ⟨g, ob, og, r⟩ := h
  exact ⟨g, hs _ ob, hs _ og, r⟩

def gets (L : List Int) (h : Int) : Int × Int := if 0 ≤ h ∧ h < L.length then (L[h.toNat]?.getD 0, 0) else (0, 3)

theorem Get_calls {ok : Nat → Prop} {b : Nat} {L : List Int} (h : Int) (w : World) (hr : TRep w ok b L) :
    Calls Tryz.prog 24 #[.pointer (some ⟨b, 0, none⟩), .int .i64 h] w fun e w' => e = .returned (.tuple #[.int .i64 (gets L h).1, .int .i64 (gets L h).2]) ∧ w = w' := by
  obtain ⟨g, _, _, hl, hb, hg⟩ := hr
  have c0 := hb.cell 0
  simp at c0
  by_cases h0 : h < 0
  · have e : gets L h = (0, 3) := by unfold gets; rw [if_neg (by omega)]
    rw [e]
    clear e
    go_enter Tryz.func24, Tryz.ntmps24
    go_wp2
    go_ret2
    exact ⟨rfl, rfl⟩
  · by_cases h1 : h < L.length
    · have e : gets L h = (L[h.toNat]?.getD 0, 0) := by unfold gets; rw [if_pos (by omega)]
      have c1 : w.cell? ⟨g, h.toNat, none⟩ = some (.int .i64 (L[h.toNat]?.getD 0)) := (hg.cell _).trans (ints_get (by omega))
      rw [e]
      clear e
      go_enter Tryz.func24, Tryz.ntmps24
      go_wp2
      go_ret2
      exact ⟨rfl, rfl⟩
    · have e : gets L h = (0, 3) := by unfold gets; rw [if_neg (by omega)]
      rw [e]
      clear e
      go_enter Tryz.func24, Tryz.ntmps24
      go_wp2
      go_ret2
      exact ⟨rfl, rfl⟩

def sets (L : List Int) (h x : Int) : List Int := if 0 ≤ h ∧ h < L.length then L.set h.toNat x else L
def setE (L : List Int) (h : Int) : Int := if 0 ≤ h ∧ h < L.length then 0 else 3
theorem sets_length (L : List Int) (h x : Int) : (sets L h x).length = L.length := by unfold sets; split <;> simp

theorem Set_calls {ok : Nat → Prop} {b : Nat} {L : List Int} (h x : Int) (w : World) (hr : TRep w ok b L) :
    Calls Tryz.prog 75 #[.pointer (some ⟨b, 0, none⟩), .int .i64 h, .int .i64 x] w fun e w' =>
      e = .returned (.int .i64 (setE L h)) ∧ TRep w' ok b (sets L h x) ∧ Keep ok w w' := by
  unfold setE sets
  have hr' := hr
  obtain ⟨g, ob, og, hl, hb, hg⟩ := hr
  have c0 := hb.cell 0
  simp at c0
  by_cases h0 : h < 0
  · rw [if_neg (by omega), if_neg (by omega)]
    go_enter Tryz.func75, Tryz.ntmps75
    go_wp2
    go_ret
    exact ⟨rfl, hr', Keep.refl _ _⟩
  · by_cases h1 : h < L.length
    · have c1 : w.cell? ⟨g, h.toNat, none⟩ = some (.int .i64 (L[h.toNat]?.getD 0)) := (hg.cell _).trans (ints_get (by omega))
      have f1 := hg.frozen h.toNat
      have T : TRep (w.setCell ⟨g, h.toNat, none⟩ (.int .i64 x)) ok b (L.set h.toNat x) :=
        ⟨g, ob, og, by simpa using hl, by rw [List.length_set]; exact hb.far (p := ⟨g, h.toNat, none⟩) (hb.ne_ hg (by decide)) _, by rw [← ints_set]; exact hg.set_ _ _⟩
      rw [if_pos ⟨by omega, h1⟩, if_pos ⟨by omega, h1⟩]
      go_enter Tryz.func75, Tryz.ntmps75
      go_wp2
      go_ret
      exact ⟨rfl, T, (Keep.refl _ _).set_ (.inl og) _⟩
    · rw [if_neg (by omega), if_neg (by omega)]
      go_enter Tryz.func75, Tryz.ntmps75
      go_wp2
      go_ret
      exact ⟨rfl, hr', Keep.refl _ _⟩

/-- How many handles there are of any number that is asked for. -/
def newN (n : Int) : Nat := if n < 0 then 0 else if 64 < n then 64 else n.toNat
theorem New_calls (n : Int) (w : World) :
    Calls Tryz.prog 69 #[.int .i64 n] w fun e w' => ∃ b, e = .returned (.pointer (some ⟨b, 0, none⟩)) ∧ TRep w' (fun i => w.heap.size ≤ i) b (List.replicate (newN n) 0) ∧ Keep (fun _ => False) w w' := by
  obtain ⟨i, hi, hz, hs, hb⟩ := info_parts info_int
  obtain ⟨m, hm⟩ : ∃ m, (if 64 < n then 64 else n) = m := ⟨_, rfl⟩
  obtain ⟨c, hc⟩ : ∃ c, (if 0 < m then m else 0) = c := ⟨_, rfl⟩
  have c0 : 0 ≤ c := by rw [← hc]; split <;> omega
  have c1 : c ≤ 64 := by rw [← hc, ← hm]; (repeat' split) <;> omega
  have e : newN n = c.toNat := by unfold newN; rw [← hc, ← hm]; (repeat' split) <;> omega
  rw [e]
  clear e
  have hmk := fun W => run_mk (P := Tryz.prog) Tryz.underlying53 hi hz hs rfl c c0 (by rw [hb]; omega) (by omega) W
  clear hi hz hs hb
  go_enter Tryz.func69, Tryz.ntmps69
  go_wp2
  go_ret
  refine ⟨_, rfl, ⟨w.heap.size, by simp, by simp, by simpa using c1, ?_, ?_⟩, ((Keep.refl _ _).alloc _).alloc _⟩
  · simpa using Blk.new (w.alloc (.cells (List.replicate c.toNat (Value.int .i64 0)).toArray 3)) 88 #[.slice (some ⟨w.heap.size, 0, none⟩) c.toNat c.toNat]
  · simpa [ints] using (Blk.new w 3 (List.replicate c.toNat (Value.int .i64 0)).toArray).alloc (.cells #[.slice (some ⟨w.heap.size, 0, none⟩) c.toNat c.toNat] 88)

theorem All_calls {ok : Nat → Prop} {b : Nat} {L : List Int} (w : World) (hr : TRep w ok b L) :
    Calls Tryz.prog 58 #[.pointer (some ⟨b, 0, none⟩)] w fun e w' => ∃ A, e = .returned (.slice A L.length L.length) ∧ SL w' (fun i => w.heap.size ≤ i) .i64 (.slice A L.length L.length) L ∧ Keep (fun _ => False) w w' := by
  obtain ⟨g, _, _, hl, hb, hg⟩ := hr
  have c0 := hb.cell 0
  simp at c0
  go_enter Tryz.func58, Tryz.ntmps58
  go_wp2_with fail
  refine (Clone_calls w (by omega) hg).mono ?_
  rintro e w1 ⟨A, c, rfl, hlc, hown, hk⟩
  go_wp2_with fail
  refine (Clip_calls w1 hlc (by omega)).mono ?_
  rintro e w2 ⟨rfl, rfl⟩
  go_wp2_with fail
  go_ret
  refine ⟨A, rfl, ?_, hk⟩
  obtain ⟨A', c', e, h1, h2⟩ := SL.of_own (ok := fun i => w.heap.size ≤ i) (k := .i64) hown (fun i h => h)
  simp only [Value.slice.injEq] at e
  obtain ⟨rfl, _, rfl⟩ := e
  exact ⟨A, L.length, rfl, h1, h2⟩

/-- What is told of all is in new memory of its own. -/
theorem All_pre {ok : Nat → Prop} {b : Nat} {L : List Int} (w : World) (hr : TRep w ok b L) (h0 : 0 < L.length) :
    Calls Tryz.prog 58 #[.pointer (some ⟨b, 0, none⟩)] w fun e w' => ∃ g, e = .returned (.slice (some ⟨g, 0, none⟩) L.length L.length) ∧ w.heap.size ≤ g ∧ Pre w' g 3 (L.map (Value.int .i64)) ∧ Keep (fun _ => False) w w' := by
  obtain ⟨g, _, _, hl, hb, hg⟩ := hr
  have c0 := hb.cell 0
  simp at c0
  go_enter Tryz.func58, Tryz.ntmps58
  go_wp2_with fail
  refine (Clone_calls w (by omega) hg).mono ?_
  rintro e w1 ⟨A, c, rfl, hlc, hown, hk⟩
  go_wp2_with fail
  refine (Clip_calls w1 hlc (by omega)).mono ?_
  rintro e w2 ⟨rfl, rfl⟩
  go_wp2_with fail
  go_ret
  rcases hown.2 with ⟨h', h1⟩ | ⟨g', cap', cur, h', hb', _⟩
  · omega
  · simp only [Value.slice.injEq, Option.some.injEq, true_and] at h'
    obtain ⟨rfl, rfl⟩ := h'
    exact ⟨g', rfl, hb', Pre.of_own hown, hk⟩
end Go.Proofs.YtihmkkjmnbehbaaGreat.Tab
/- Contracts of package grey over a predicate on memory. No condition. -/
set_option linter.unusedVariables false
set_option linter.unusedSimpArgs false
namespace Go.Proofs.YtihmkkjmnbehbaaGreat.Gy
open Go.RowKit Go.Proofs.YtihmkkjmnbehbaaGreat.W Go.Proofs.YtihmkkjmnbehbaaGreat.Sm

/-- A stack with room for so many: block b is a Stack that holds L. -/
def GRep (w : World) (ok : Nat → Prop) (b : Nat) (most : Int) (L : List Int) (lost : Bool) : Prop :=
  ∃ (A : Option Addr) (c : Nat), ok b ∧ 0 ≤ most ∧ most ≤ 1048576 ∧ (L.length : Int) ≤ most ∧ Blk w b 158 #[.int .i64 most, .slice A L.length c, .bool lost] ∧ QR w ok 3 A L.length c (L.map (Value.int .i64))

section
variable {w w' : World} {ok ok' : Nat → Prop} {b : Nat} {most : Int} {L : List Int} {lost : Bool}
theorem GRep.keep (h : GRep w ok b most L lost) (hk : Keep ok' w w') (hn : ∀ i, ok i → ok' i → False) : GRep w' ok b most L lost := by
  obtain ⟨A, c, ob, h0, h1, h2, hb, hq⟩ := h
  exact ⟨A, c, ob, h0, h1, h2, hk.blk hb (fun x => hn _ ob x), hq.keep hk hn⟩
theorem GRep.mono (h : GRep w ok b most L lost) (hs : ∀ i, ok i → ok' i) : GRep w ok' b most L lost := by
  obtain ⟨A, c, ob, h0, h1, h2, hb, hq⟩ := h
  exact ⟨A, c, hs _ ob, h0, h1, h2, hb, hq.mono hs⟩
theorem GRep.drewN (h : GRep w ok b most L lost) (n : Nat) : GRep (w.drewN n) ok b most L lost := h
theorem GRep.bound (h : GRep w ok b most L lost) : GRep w (fun i => ok i ∧ i < w.heap.size) b most L lost := by
  obtain ⟨A, c, ob, h0, h1, h2, hb, hq⟩ := h
  exact ⟨A, c, ⟨ob, hb.lt⟩, h0, h1, h2, hb, hq.bound⟩
end

def clampN (n : Int) : Int := if n < 0 then 0 else if 1048576 < n then 1048576 else n
theorem clampN_id {n : Int} (h0 : 0 ≤ n) (h1 : n ≤ 1048576) : clampN n = n := by unfold clampN; rw [if_neg (by omega), if_neg (by omega)]
theorem New_calls (n : Int) (w : World) :
    Calls Tryz.prog 68 #[.int .i64 n] w fun e w' => ∃ b, e = .returned (.pointer (some ⟨b, 0, none⟩)) ∧ GRep w' (fun i => w.heap.size ≤ i) b (clampN n) [] false ∧ Keep (fun _ => False) w w' := by
  obtain ⟨m, hm⟩ : ∃ m, (if 1048576 < n then 1048576 else n) = m := ⟨_, rfl⟩
  obtain ⟨c, hc⟩ : ∃ c, (if 0 < m then m else 0) = c := ⟨_, rfl⟩
  have c0 : 0 ≤ c := by rw [← hc]; split <;> omega
  have c1 : c ≤ 1048576 := by rw [← hc, ← hm]; (repeat' split) <;> omega
  have e : clampN n = c := by unfold clampN; rw [← hc, ← hm]; (repeat' split) <;> omega
  rw [e]
  clear e
  go_enter Tryz.func68, Tryz.ntmps68
  go_wp2
  go_ret
  exact ⟨_, rfl, ⟨none, 0, by simp, c0, c1, by simpa using c0, Blk.new w _ _, QR.nil _ _ _⟩, (Keep.refl _ _).alloc _⟩

theorem Len_calls {ok : Nat → Prop} {b : Nat} {most : Int} {L : List Int} {lost : Bool} (w : World) (hr : GRep w ok b most L lost) :
    Calls Tryz.prog 172 #[.pointer (some ⟨b, 0, none⟩)] w fun e w' => e = .returned (.int .i64 L.length) ∧ w = w' := by
  obtain ⟨A, c, ob, h0, h1, h2, hb, hq⟩ := hr
  have e1 := hb.cell 1
  simp at e1
  go_enter Tryz.func172, Tryz.ntmps172
  go_wp2
  go_ret
  exact ⟨rfl, rfl⟩

theorem Lost_calls {ok : Nat → Prop} {b : Nat} {most : Int} {L : List Int} {lost : Bool} (w : World) (hr : GRep w ok b most L lost) :
    Calls Tryz.prog 146 #[.pointer (some ⟨b, 0, none⟩)] w fun e w' => e = .returned (.bool lost) ∧ ∃ n, w' = w.drewN n := by
  obtain ⟨A, c, ob, h0, h1, h2, hb, hq⟩ := hr
  have e2 := hb.cell 2
  simp at e2
  go_enter Tryz.func146, Tryz.ntmps146
  go_wp2
  (try (go_quiet (fail)))
  (try go_wp2)
  go_ret
  first | exact ⟨rfl, 0, rfl⟩ | exact ⟨rfl, _, rfl⟩

theorem Found_calls {ok : Nat → Prop} {b : Nat} {most : Int} {L : List Int} {lost : Bool} (w : World) (hr : GRep w ok b most L lost) :
    Calls Tryz.prog 173 #[.pointer (some ⟨b, 0, none⟩)] w fun e w' => e = .returned (.tuple #[]) ∧ GRep w' ok b most L false ∧ Keep ok w w' := by
  obtain ⟨A, c, ob, h0, h1, h2, hb, hq⟩ := hr
  have e2 := hb.cell 2
  simp at e2
  have z2 := hb.frozen 2
  have hR : GRep (w.setCell ⟨b, 2, none⟩ (.bool false)) ok b most L false :=
    ⟨A, c, ob, h0, h1, h2, by simpa using hb.set_ 2 (.bool false), ((hq.ne_ hb (by decide)).far (p := ⟨b, 2, none⟩) (fun h => h.2 rfl) (.bool false)).mono (fun i h => h.1)⟩
  have hK : Keep ok w (w.setCell ⟨b, 2, none⟩ (.bool false)) := (Keep.refl ok w).set_ (.inl ob) _
  clear hb hq
  go_enter Tryz.func173, Tryz.ntmps173
  go_wp2
  first | go_end0 | exact (bodyPost_end rfl rfl ?_) | skip
  exact ⟨rfl, hR, hK⟩

def putL (L : List Int) (most x : Int) : List Int := if (L.length : Int) < most then L ++ [x] else L
theorem putL_ok {L : List Int} {most : Int} (x : Int) (h : (L.length : Int) < most) : putL L most x = L ++ [x] := if_pos h
theorem putL_no {L : List Int} {most : Int} (x : Int) (h : ¬ (L.length : Int) < most) : putL L most x = L := if_neg h

theorem Push_calls {ok : Nat → Prop} {b : Nat} {most : Int} {L : List Int} {lost : Bool} (x : Int) (w : World) (hr : GRep w ok b most L lost) :
    Calls Tryz.prog 118 #[.pointer (some ⟨b, 0, none⟩), .int .i64 x] w fun e w' =>
      e = .returned (.bool (decide ((L.length : Int) < most))) ∧ GRep w' (fun k => ok k ∨ w.heap.size ≤ k) b most (putL L most x) (lost || decide (most ≤ (L.length : Int))) ∧ Keep ok w w' := by
  have hr' := hr
  obtain ⟨A, c, ob, h0, h1, h2, hb, hq⟩ := hr
  have e0 := hb.cell 0
  have e1 := hb.cell 1
  have e2 := hb.cell 2
  simp at e0 e1 e2
  have z2 := hb.frozen 2
  unfold putL
  by_cases hlt : (L.length : Int) < most
  · have hd : decide ((L.length : Int) < most) = true := by simpa using hlt
    have hd2 : decide (most ≤ (L.length : Int)) = false := by simp; omega
    rw [hd, if_pos hlt, hd2, Bool.or_false]
    clear hd
    obtain ⟨i, hi, hz, hs, hby⟩ := info_parts info_int
    have hqn := hq.ne_ hb (by decide)
    go_enter Tryz.func118, Tryz.ntmps118
    go_wp2
    go_quiet (fail)
    have hbq : Blk ((w.drewN nq).alloc (.cells #[.int .i64 x] 3)) b 158 #[.int .i64 most, .slice A L.length c, .bool lost] := (hb.drewN nq).alloc _
    have hqq : QR ((w.drewN nq).alloc (.cells #[.int .i64 x] 3)) (fun i => ok i ∧ i ≠ b) 3 A L.length c (L.map (Value.int .i64)) := (hqn.drewN nq).alloc _
    have hkk : Keep ok w ((w.drewN nq).alloc (.cells #[.int .i64 x] 3)) := ((Keep.refl ok w).drewN nq).alloc _
    have hbl := hb.lt
    go_wp2_with (at_builtin; refine wpList_append_q rfl _ _ 53 rfl 3 i (.int .i64 0) 8 Tryz.underlying53 hi hz hs hby rfl A L.length c (L.map (Value.int .i64)) rfl hqq w.heap.size (.int .i64 x) rfl ?c1 rfl ?c2 ?c3 ?_)
    case c1 => simpa using (Blk.new (w.drewN nq) 3 #[.int .i64 x]).cell 0
    case c2 => omega
    case c3 => omega
    intro A' c' w1 hq1 hk1
    have hb1 : Blk w1 b 158 #[.int .i64 most, .slice A L.length c, .bool lost] := hk1.blk hbq (fun h => h.2 rfl)
    have f1 := hb1.cell 1
    simp at f1
    have f2 := hb1.frozen 1
    have hb2 := hb1.set_ 1 (.slice A' (L.length + 1) c')
    have hq2 := hq1.far (p := ⟨b, 1, none⟩) (by rintro (h | h) <;> first | exact h.2 rfl | omega | (simp at h; omega)) (.slice A' (L.length + 1) c')
    have hk2 : Keep ok w (w1.setCell ⟨b, 1, none⟩ (.slice A' (L.length + 1) c')) := (hkk.trans hk1 (fun i h => .inl h.1)).set_ (.inl ob) _
    have hR : GRep (w1.setCell ⟨b, 1, none⟩ (.slice A' (L.length + 1) c')) (fun k => ok k ∨ w.heap.size ≤ k) b most (L ++ [x]) lost :=
      ⟨A', c', .inl ob, h0, h1, by simp; omega, by simpa using hb2, by
        have := hq2.mono (ok' := fun k => ok k ∨ w.heap.size ≤ k) (by rintro i (h | h) <;> first | exact .inl h.1 | exact .inr (by omega) | (simp at h; exact .inr (by omega)))
        simpa using this⟩
    clear hbq hqq hkk hq1 hk1 hb1 hb2 hq2 e0 e1 hqn hq hb hr'
    go_wp2
    go_ret
    exact ⟨rfl, hR, hk2⟩
  · have hd : decide ((L.length : Int) < most) = false := by simpa using hlt
    have hd2 : decide (most ≤ (L.length : Int)) = true := by simp; omega
    rw [hd, if_neg hlt, hd2, Bool.or_true]
    clear hd
    go_enter Tryz.func118, Tryz.ntmps118
    go_wp2
    go_quiet (fail)
    have hR : GRep (((w.drewN nq)).setCell ⟨b, 2, none⟩ (.bool true)) (fun k => ok k ∨ w.heap.size ≤ k) b most L true :=
      ⟨A, c, .inl ob, h0, h1, h2, by simpa using (hb.drewN nq).set_ 2 (.bool true), (((hq.ne_ hb (by decide)).drewN nq).far (p := ⟨b, 2, none⟩) (fun h => h.2 rfl) (.bool true)).mono (fun i h => .inl h.1)⟩
    have hK : Keep ok w (((w.drewN nq)).setCell ⟨b, 2, none⟩ (.bool true)) := ((Keep.refl ok w).drewN nq).set_ (.inl ob) _
    clear hr' hb hq
    go_wp2
    go_ret
    exact ⟨rfl, hR, hK⟩

/-- The last one, or 0; is there one? -/
def last0 (L : List Int) : Int := L[L.length - 1]?.getD 0
def some0 : List Int → Bool | [] => false | _ :: _ => true

theorem run_cutm {t e : TypeId} {P : Program} {i : TypeInfo} (ht : P.underlying t = some (.slice e)) (hi : P.info? e = some i) (g off n c : Nat) (m : Int) (h0 : 0 ≤ m) (hm : m ≤ c) (W : World) :
    (Instr.slice t (.slice (some ⟨g, off, none⟩) n c) none (some (.int .i64 m)) none).run P W = .ok (.slice (some ⟨g, off, none⟩) m.toNat c) W := by
  have hel : P.elem t = e := by simp [Program.elem, ht]
  have hu : P.underlying t = some (.slice (P.elem t)) := by rw [hel]; exact ht
  rw [run_slice_h W t (some ⟨g, off, none⟩) n c hu .i64 m h0 hm, hel]
  simp [sizeOf, typeInfo, hi, sliced, Result.andThen, Addr.add_lit]

theorem Pop_calls {ok : Nat → Prop} {b : Nat} {most : Int} {L : List Int} {lost : Bool} (w : World) (hr : GRep w ok b most L lost) :
    Calls Tryz.prog 143 #[.pointer (some ⟨b, 0, none⟩)] w fun e w' =>
      e = .returned (.tuple #[.int .i64 (last0 L), .bool (some0 L)]) ∧ GRep w' ok b most (L.take (L.length - 1)) lost ∧ Keep ok w w' := by
  have hr' := hr
  obtain ⟨A, c, ob, h0, h1, h2, hb, hq⟩ := hr
  have e1 := hb.cell 1
  simp at e1
  by_cases hL : L.length = 0
  · have : L = [] := List.eq_nil_of_length_eq_zero hL
    subst this
    go_enter Tryz.func143, Tryz.ntmps143
    go_wp2_with fail
    refine (Len_calls w hr').mono ?_
    rintro e w1 ⟨rfl, rfl⟩
    rw [show (([] : List Int).length : Int) = 0 from rfl]
    go_wp2_with fail
    go_ret2
    exact ⟨rfl, hr', Keep.refl _ _⟩
  · have hs0 : some0 L = true := by cases L with | nil => simp at hL | cons _ _ => rfl
    obtain ⟨g, off, rfl, hg, hgl, hcell, hfz⟩ := hq.at_ (i := 0) (by omega)
    have c0 := hcell (L.length - 1) (by omega)
    have c1 : w.cell? ⟨g, off + (L.length - 1), none⟩ = some (.int .i64 (last0 L)) := by
      rw [c0]; simp [last0, show L.length - 1 < L.length by omega]
    have f1 := hb.frozen 1
    have hcap : L.length ≤ c := hq.2.1
    obtain ⟨i, hi, hz, hs, hby⟩ := info_parts info_int
    have hq3 := ((hq.take (m := L.length - 1) (by omega)).ne_ hb (by decide)).far (p := ⟨b, 1, none⟩) (fun h => h.2 rfl) (.slice (some ⟨g, off, none⟩) (L.length - 1) c)
    have hb3 := hb.set_ 1 (.slice (some ⟨g, off, none⟩) (L.length - 1) c)
    have hlt : (L.take (L.length - 1)).length = L.length - 1 := by rw [List.length_take]; omega
    have hR : GRep (w.setCell ⟨b, 1, none⟩ (.slice (some ⟨g, off, none⟩) (L.length - 1) c)) ok b most (L.take (L.length - 1)) lost :=
      ⟨some ⟨g, off, none⟩, c, ob, h0, h1, by omega, by rw [hlt]; simpa using hb3, by rw [hlt, List.map_take]; exact hq3.mono (fun i h => h.1)⟩
    have hK : Keep ok w (w.setCell ⟨b, 1, none⟩ (.slice (some ⟨g, off, none⟩) (L.length - 1) c)) := (Keep.refl _ _).set_ (.inl ob) _
    rw [hs0]
    generalize L.take (L.length - 1) = L2 at hR ⊢
    generalize last0 L = x at c1 ⊢
    obtain ⟨n, hn⟩ : ∃ n, L.length = n + 1 := ⟨L.length - 1, by omega⟩
    have hlen : ∀ (w : World) , GRep w ok b most L lost → Calls Tryz.prog 172 #[.pointer (some ⟨b, 0, none⟩)] w fun e w' => e = .returned (.int .i64 ((n : Int) + 1)) ∧ w = w' := fun w h => by
      have := Len_calls w h
      rw [hn] at this
      exact_mod_cast this
    have hd : L.length - 1 = n := by omega
    have hnb : (n : Int) ≤ 1048575 := by omega
    rw [hd] at hR hK c1
    rw [hn] at e1 hcap
    have hsl : ∀ W : World, (Instr.slice 53 (.slice (some ⟨g, off, none⟩) (n + 1) c) none (some (.int .i64 (n : Int))) none).run Tryz.prog W = .ok (.slice (some ⟨g, off, none⟩) n c) W := by
      intro W
      have := run_cutm Tryz.underlying53 hi g off (n + 1) c (n : Int) (by omega) (by omega) W
      simpa using this
    clear hq hq3 hb3 hcell c0 hb hL hs0 hlt hd hn
    have hne : ((n : Int) + 1 == 0) = false := by simp; omega
    go_enter Tryz.func143, Tryz.ntmps143
    go_wp2_with fail
    refine (hlen w hr').mono ?_
    rintro e w1 ⟨rfl, rfl⟩
    go_wp2_with fail
    go_ret2
    exact ⟨rfl, hR, hK⟩


/-- Clone of a row. -/
theorem Clone_q {ok : Nat → Prop} {A : Option Addr} {c : Nat} {L : List Int} (w : World) (hl : L.length ≤ 1048576) (hq : QR w ok 3 A L.length c (L.map (Value.int .i64))) :
    Calls Tryz.prog 97 #[.slice A L.length c] w fun e w' =>
      ∃ A' c', e = .returned (.slice A' L.length c') ∧ L.length ≤ c' ∧ w'.ownsRow w.heap.size 3 1 (.slice A' L.length c') L.length (L.map (Value.int .i64)) ∧ Keep (fun _ => False) w w' := by
  obtain ⟨i, hi, hz, hs, hb⟩ := info_parts info_int
  rcases hq.2.2.2 with ⟨rfl, hc0⟩ | ⟨g, off, cur, rfl, hg, hbg, hsz, htk⟩
  · have h0 : L.length = 0 := by have := hq.2.1; omega
    have : L = [] := List.eq_nil_of_length_eq_zero h0
    subst this
    subst hc0
    have hnil := fun (W : World) => Lib.run_eql_slice_nil (P := Tryz.prog) W 53 3 none 0 0 0 0 Tryz.underlying53
    rw [show ([] : List Int).length = 0 from rfl]
    go_enter Tryz.func97, Tryz.ntmps97
    go_wp2
    go_ret
    exact ⟨none, 0, rfl, Nat.le_refl _, World.ownsRow_nil _ _ _ _, Keep.refl _ _⟩
  · have hnil := fun (W : World) => Lib.run_eql_slice_nil (P := Tryz.prog) W 53 3 (some ⟨g, off, none⟩) L.length c 0 0 Tryz.underlying53
    have hcell : ∀ (W : World), (∀ k, k < w.heap.size → W.heap[k]? = w.heap[k]?) → ∀ j u, (L.map (Value.int .i64))[j]? = some u → W.cell? ((⟨g, off, none⟩ : Addr).add j) = some u := by
      intro W hW j u hu
      have hj : j < L.length := by
        rcases Nat.lt_or_ge j L.length with h | h
        · exact h
        · rw [List.getElem?_eq_none (by simpa using h)] at hu; cases hu
      have hb' : Blk W g 3 cur := (hW g hbg.lt).trans hbg
      rw [Addr.add_lit, hb'.cell]
      rw [← htk, List.getElem?_take, if_pos hj, List.getElem?_drop, Array.getElem?_toList] at hu
      exact hu
    have hlc : L.length ≤ c := hq.2.1
    have hcm : c ≤ 9223372036854775807 := hq.2.2.1
    have HC := Lib.hid hcell
    clear hcell htk hsz
    go_enter Tryz.func97, Tryz.ntmps97
    go_wp2_with (at_builtin; refine wpList_append_own _ rfl _ _ 53 rfl w.heap.size 3 i (.int .i64 0) 1 8 Tryz.underlying53 hi hz hs hb rfl (by decide) _ 0 [] rfl ?c0 ⟨g, off, none⟩ L.length c (L.map (Value.int .i64)) rfl ?c1 ?c2 ?c3 ?c4 ?c5 ?c6 ?_)
    case c0 => exact World.ownsRow_lit w #[] 0 (Nat.le_refl _) (by unfold maxLen; omega) (by simp)
    case c1 => simp
    case c2 => exact HC.out _ (fun k hk => Below.heap_alloc w _ k hk)
    case c3 => intro u hu; simp at hu; obtain ⟨x, _, rfl⟩ := hu; rfl
    case c4 => unfold maxLen; omega
    case c5 => omega
    case c6 => simp
    intro v' w1 hown hgrow _
    obtain ⟨A, c', hv, hlc⟩ : ∃ A c', v' = .slice A L.length c' ∧ L.length ≤ c' := by
      rcases hown.2 with ⟨h, h0⟩ | ⟨g', cap, cur, h, _, _, h2, _⟩
      · exact ⟨none, 0, by rw [h, show L.length = 0 by omega], by omega⟩
      · exact ⟨_, cap, h, h2⟩
    subst hv
    go_wp2
    go_ret
    refine ⟨A, c', rfl, hlc, by simpa using hown, ?_⟩
    exact ((Keep.refl _ w).alloc _).trans (Keep.of_grown (ok := fun i => w.heap.size ≤ i) hgrow (by intro g h; simp [Value.ownBlock] at h; omega)) (fun i h => .inr h)

theorem All_calls {ok : Nat → Prop} {b : Nat} {most : Int} {L : List Int} {lost : Bool} (w : World) (hr : GRep w ok b most L lost) :
    Calls Tryz.prog 160 #[.pointer (some ⟨b, 0, none⟩)] w fun e w' => ∃ A c, e = .returned (.slice A L.length c) ∧ SL w' (fun i => w.heap.size ≤ i) .i64 (.slice A L.length c) L ∧ Keep (fun _ => False) w w' := by
  obtain ⟨A, c, ob, h0, h1, h2, hb, hq⟩ := hr
  have e1 := hb.cell 1
  simp at e1
  go_enter Tryz.func160, Tryz.ntmps160
  go_wp2_with fail
  refine (Clone_q w (by omega) hq).mono ?_
  rintro e w1 ⟨A', c', rfl, hle, hown, hk⟩
  go_wp2_with fail
  refine (Clip_calls w1 hle (by omega)).mono ?_
  rintro e w2 ⟨rfl, rfl⟩
  go_wp2_with fail
  go_ret
  refine ⟨_, _, rfl, ?_, hk⟩
  obtain ⟨A2, c2, e, h1, h2⟩ := SL.of_own (ok := fun i => w.heap.size ≤ i) (k := .i64) hown (fun i h => h)
  simp only [Value.slice.injEq] at e
  obtain ⟨rfl, _, rfl⟩ := e
  exact ⟨_, _, rfl, by omega, h2⟩
end Go.Proofs.YtihmkkjmnbehbaaGreat.Gy
/- Laws of layer 11 as contracts: each returns true and leaves what was there as it was. Condition: an argument that is a slice reads as a list. -/
set_option linter.unusedVariables false
set_option linter.unusedSimpArgs false
namespace Go.Proofs.YtihmkkjmnbehbaaGreat.Gy
open Go.RowKit Go.Proofs.YtihmkkjmnbehbaaGreat.W Go.Proofs.YtihmkkjmnbehbaaGreat.Sm

def At (W w : World) (b : Nat) (most : Int) (L : List Int) (lost : Bool) : Prop := GRep w (fun i => W.heap.size ≤ i) b most L lost ∧ Keep (fun _ => False) W w
section
variable {W w : World} {b : Nat} {most : Int} {L : List Int} {lost : Bool}
theorem At.go {w' : World} {most' : Int} {L' : List Int} {lost' : Bool} (h : At W w b most L lost) (r : GRep w' (fun i => W.heap.size ≤ i) b most' L' lost') (k : Keep (fun i => W.heap.size ≤ i) w w') : At W w' b most' L' lost' :=
  ⟨r, h.2.trans k (fun i h => .inr h)⟩
theorem At.stay {w' : World} (h : At W w b most L lost) (k : Keep (fun _ => False) w w') : At W w' b most L lost := ⟨h.1.keep k (fun _ _ h => h), h.2.trans k (fun i h => .inl h)⟩
theorem At.drewN (h : At W w b most L lost) (n : Nat) : At W (w.drewN n) b most L lost := ⟨h.1.drewN n, h.2.drewN n⟩
theorem At.alloc (h : At W w b most L lost) (o : Obj) : At W (w.alloc o) b most L lost := h.stay ((Keep.refl _ _).alloc o)
theorem At.below (h : At W w b most L lost) : Below W.heap.size W w := h.2.below (fun _ h => h.elim)
theorem At.keep0 (h : At W w b most L lost) : Keep (fun _ => False) W w := h.2
theorem At.block (h : At W w b most L lost) (i : Nat) (hi : i < W.heap.size) : w.heap[i]? = W.heap[i]? := h.2.block i hi (fun h => h)
theorem At.len (h : At W w b most L lost) : (L.length : Int) ≤ most ∧ 0 ≤ most ∧ most ≤ 1048576 := by obtain ⟨⟨A, c, _, h0, h1, h2, _⟩, _⟩ := h; exact ⟨h2, h0, h1⟩
theorem New_at (n : Int) (w : World) : Calls Tryz.prog 68 #[.int .i64 n] w fun e w' => ∃ b, e = .returned (.pointer (some ⟨b, 0, none⟩)) ∧ At w w' b (clampN n) [] false :=
  (New_calls n w).mono fun e w' ⟨b, he, hr, hk⟩ => ⟨b, he, hr, hk⟩
theorem Len_at (h : At W w b most L lost) : Calls Tryz.prog 172 #[.pointer (some ⟨b, 0, none⟩)] w fun e w' => e = .returned (.int .i64 L.length) ∧ At W w' b most L lost :=
  (Len_calls w h.1).mono fun e w' ⟨he, hw⟩ => ⟨he, hw ▸ h⟩
theorem Lost_at (h : At W w b most L lost) : Calls Tryz.prog 146 #[.pointer (some ⟨b, 0, none⟩)] w fun e w' => e = .returned (.bool lost) ∧ At W w' b most L lost :=
  (Lost_calls w h.1).mono fun e w' ⟨he, n, hw⟩ => ⟨he, hw ▸ h.drewN n⟩
theorem Found_at (h : At W w b most L lost) : Calls Tryz.prog 173 #[.pointer (some ⟨b, 0, none⟩)] w fun e w' => e = .returned (.tuple #[]) ∧ At W w' b most L false :=
  (Found_calls w h.1).mono fun e w' ⟨he, hr, hk⟩ => ⟨he, h.go hr hk⟩
theorem Push_at (x : Int) (h : At W w b most L lost) : Calls Tryz.prog 118 #[.pointer (some ⟨b, 0, none⟩), .int .i64 x] w fun e w' =>
    e = .returned (.bool (decide ((L.length : Int) < most))) ∧ At W w' b most (putL L most x) (lost || decide (most ≤ (L.length : Int))) :=
  (Push_calls x w h.1).mono fun e w' ⟨he, hr, hk⟩ => ⟨he, h.go (hr.mono fun i hi => by have := h.2.size; omega) hk⟩
theorem Pop_at (h : At W w b most L lost) : Calls Tryz.prog 143 #[.pointer (some ⟨b, 0, none⟩)] w fun e w' => e = .returned (.tuple #[.int .i64 (last0 L), .bool (some0 L)]) ∧ At W w' b most (L.take (L.length - 1)) lost :=
  (Pop_calls w h.1).mono fun e w' ⟨he, hr, hk⟩ => ⟨he, h.go hr hk⟩
theorem All_at (h : At W w b most L lost) : Calls Tryz.prog 160 #[.pointer (some ⟨b, 0, none⟩)] w fun e w' => ∃ A c, e = .returned (.slice A L.length c) ∧ SL w' (fun i => w.heap.size ≤ i) .i64 (.slice A L.length c) L ∧ At W w' b most L lost :=
  (All_calls w h.1).mono fun e w' ⟨A, c, he, hs, hk⟩ => ⟨A, c, he, hs, h.stay hk⟩
end

/-- What a stack holds behind the first k of a list. -/
def got (l : List Int) (most : Int) (k : Nat) : List Int := (l.take k).take most.toNat
theorem got_len (l : List Int) (most : Int) {k : Nat} (h : k ≤ l.length) (h0 : 0 ≤ most) : ((got l most k).length : Int) = if (k : Int) < most then (k : Int) else most := by
  unfold got; rw [List.length_take, List.length_take]; split <;> omega
theorem got_ok {l : List Int} {most : Int} {k : Nat} (h : k < l.length) (hk : (k : Int) < most) : putL (got l most k) most (l[k]?.getD 0) = got l most (k + 1) := by
  have h1 := got_len l most (k := k) (by omega) (by omega)
  rw [if_pos hk] at h1
  rw [putL_ok _ (by omega)]
  unfold got
  rw [List.take_of_length_le (l := l.take k) (by rw [List.length_take]; omega), List.take_of_length_le (l := l.take (k + 1)) (by rw [List.length_take]; omega), List.take_add_one]
  simp [h]
theorem got_no {l : List Int} {most : Int} {k : Nat} (h : k < l.length) (h0 : 0 ≤ most) (hk : ¬ (k : Int) < most) (x : Int) : putL (got l most k) most x = got l most (k + 1) := by
  have h1 := got_len l most (k := k) (by omega) (by omega)
  rw [if_neg hk] at h1
  rw [putL_no _ (by omega)]
  unfold got
  rw [List.take_take, List.take_take]
  congr 1
  omega

set_option maxHeartbeats 1000000 in
theorem Put_calls {ok ok' : Nat → Prop} {v : Value} {l : List Int} {b : Nat} {most : Int} {L : List Int} {lost : Bool} (w : World) (h : GRep w ok b most L lost) (hl : SL w ok' .i64 v l) (hn : ∀ i, ok i → ok' i → False) :
    Calls Tryz.prog 161 #[.pointer (some ⟨b, 0, none⟩), v] w fun e w' =>
      e = .returned (.tuple #[]) ∧ GRep w' (fun k => ok k ∨ w.heap.size ≤ k) b most (got l most l.length) (lost || decide (most < (l.length : Int))) ∧ Keep ok w w' := by
  obtain ⟨A1, c1, rfl, hm1, hc1⟩ := hl
  obtain ⟨A, c, ob, h0, h1, h2, hb, hq⟩ := h
  have f1 := hb.cell 1
  simp at f1
  have z1 := hb.frozen 1
  have hR : GRep (w.setCell ⟨b, 1, none⟩ (.slice none 0 0)) (fun k => ok k ∨ w.heap.size ≤ k) b most [] lost :=
    ⟨none, 0, .inl ob, h0, h1, by simpa using h0, by simpa using hb.set_ 1 (.slice none 0 0), QR.nil _ _ _⟩
  have hK : Keep ok w (w.setCell ⟨b, 1, none⟩ (.slice none 0 0)) := (Keep.refl ok w).set_ (.inl ob) _
  have up : ∀ (W : World) (i : Nat), w.heap.size ≤ W.heap.size → ((ok i ∨ w.heap.size ≤ i) ∨ W.heap.size ≤ i) → (ok i ∨ w.heap.size ≤ i) := fun W i h1 h2 => by
    rcases h2 with h | h
    · exact h
    · exact .inr (by omega)
  have UP := Lib.hid up
  have HC1 := Lib.hid hc1
  have HN := Lib.hid hn
  clear up hc1 hn hb hq
  go_enter Tryz.func161, Tryz.ntmps161
  go_wp2_with fail
  go_loopw [13] (fun i wr => ∃ k : Nat, k ≤ l.length ∧ i = .int .i64 k ∧ GRep wr (fun i => ok i ∨ w.heap.size ≤ i) b most (got l most k) (lost || decide (most < (k : Int))) ∧ Keep ok w wr) (fun i _ => l.length - (intOf i).toNat)
  case atStart => exact ⟨0, by omega, rfl, by rw [show decide (most < ((0 : Nat) : Int)) = false from by simpa using h0, Bool.or_false, show got l most 0 = [] from by simp [got]]; exact hR, hK⟩
  case round =>
    clear hR hK f1 z1
    obtain ⟨k, hk, rfl, hr, hkp⟩ := hrel
    by_cases hlt : k < l.length
    · obtain ⟨b1, o1, rfl, hb1, hlt1, hcell1⟩ := HC1.out (by omega)
      have q1 : wr.cell? ⟨b1, o1 + k, none⟩ = some (.int .i64 (l[k]?.getD 0)) := (World.cell?_of_block (hkp.block b1 hlt1 (fun h => HN.out b1 h hb1))).trans (hcell1 k hlt)
      have hlen := got_len l most (k := k) (by omega) h0
      have hnext : putL (got l most k) most (l[k]?.getD 0) = got l most (k + 1) ∧ ((lost || decide (most < (k : Int))) || decide (most ≤ ((got l most k).length : Int))) = (lost || decide (most < ((k + 1 : Nat) : Int))) := by
        by_cases hkm : (k : Int) < most
        · rw [if_pos hkm] at hlen
          refine ⟨got_ok hlt hkm, ?_⟩
          rw [show decide (most < (k : Int)) = false from by simp; omega, show decide (most ≤ ((got l most k).length : Int)) = false from by simp; omega, show decide (most < ((k + 1 : Nat) : Int)) = false from by simp; omega]
          simp
        · rw [if_neg hkm] at hlen
          refine ⟨got_no hlt h0 hkm _, ?_⟩
          rw [show decide (most ≤ ((got l most k).length : Int)) = true from by simp; omega, show decide (most < ((k + 1 : Nat) : Int)) = true from by simp; omega]
          simp
      generalize l[k]?.getD 0 = x at q1 hnext
      have HX := Lib.hid hnext
      clear hnext hlen hcell1
      go_wp2_with fail
      refine (Push_calls x wr hr).mono ?_
      rintro e w3 ⟨rfl, h3, k3⟩
      rw [HX.out.1, HX.out.2] at h3
      replace h3 := h3.mono (fun i h => UP.out wr i hkp.size h)
      replace k3 := hkp.trans k3 (fun i h => h)
      generalize decide (((got l most k).length : Int) < most) = bb
      go_wp2_with fail
      go_roundw
      case rel => exact ⟨k + 1, by omega, by go_num, h3, k3⟩
      case measure => simp [intOf]; omega
    · have hkk : k = l.length := by omega
      subst hkk
      clear hlt
      go_wp2_with fail
      first | go_end0 | go_ret
      exact ⟨rfl, hr, hkp⟩

theorem Found_nil (w : World) : Calls Tryz.prog 173 #[.pointer none] w fun e w' => e = .returned (.tuple #[]) ∧ w = w' := by
  go_enter Tryz.func173, Tryz.ntmps173
  go_wp2
  first | go_end0 | (refine bodyPost_ret (results_none rfl _ _ _) rfl ?_)
  exact ⟨rfl, rfl⟩
theorem Put_nil (v : Value) (w : World) : Calls Tryz.prog 161 #[.pointer none, v] w fun e w' => e = .returned (.tuple #[]) ∧ w = w' := by
  go_enter Tryz.func161, Tryz.ntmps161
  go_wp2
  first | go_end0 | (refine bodyPost_ret (results_none rfl _ _ _) rfl ?_)
  exact ⟨rfl, rfl⟩

end Go.Proofs.YtihmkkjmnbehbaaGreat.Gy
