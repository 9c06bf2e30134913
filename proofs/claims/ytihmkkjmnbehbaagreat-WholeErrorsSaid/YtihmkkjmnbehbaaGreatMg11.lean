/- Texts of the whole heap, joined: Bump Small Cut Clone. No condition beside those that each lemma names. -/
import Derived.Test.YtihmkkjmnbehbaaGreatProg
import Derived.Test.YtihmkkjmnbehbaaGreatMg00
import Derived.Outline
/- Contracts of package bump over a predicate on memory. No condition. -/
set_option linter.unusedVariables false
set_option linter.unusedSimpArgs false
namespace Go.Proofs.YtihmkkjmnbehbaaGreat.Bp
open Go.RowKit Go.Proofs.YtihmkkjmnbehbaaGreat.W

/-- Two halves: where each begins, how much of it is used, how many words each has, which one is filled. -/
structure Sp where
  f0 : Int
  u0 : Int
  f1 : Int
  u1 : Int
  m : Int
  now : Bool

def Sp.cells (s : Sp) : Array Value := #[.int .i64 s.f0, .int .i64 s.u0, .int .i64 s.f1, .int .i64 s.u1, .int .i64 s.m, .int .i64 (if s.now then 1 else 0)]
def Sp.ok (s : Sp) : Prop := 0 ≤ s.f0 ∧ s.f0 ≤ 2097152 ∧ 0 ≤ s.f1 ∧ s.f1 ≤ 2097152 ∧ s.m ≤ 1048576 ∧ 0 ≤ s.u0 ∧ s.u0 ≤ s.m ∧ 0 ≤ s.u1 ∧ s.u1 ≤ s.m
def Sp.used (s : Sp) : Int := if s.now then s.u1 else s.u0
def Sp.left (s : Sp) : Int := if s.now then s.u0 else s.u1
def Sp.here (s : Sp) : Int := if s.now then s.f1 else s.f0
def Sp.there (s : Sp) : Int := if s.now then s.f0 else s.f1
def Sp.room (s : Sp) : Int := s.m - s.used
def Sp.fits (s : Sp) (n : Int) : Bool := decide (1 ≤ n) && decide (n ≤ s.room)
def Sp.take (s : Sp) (n : Int) : Sp := if s.fits n then (if s.now then { s with u1 := s.u1 + n } else { s with u0 := s.u0 + n }) else s
def Sp.flip (s : Sp) : Sp := if 0 < s.left then s else { s with now := !s.now }
def Sp.drop (s : Sp) : Sp := if s.now then { s with u0 := 0 } else { s with u1 := 0 }
def Sp.isIn (s : Sp) (at_ : Int) : Bool := decide (s.here ≤ at_) && decide (at_ - s.here < s.used)
def Sp.isFrom (s : Sp) (at_ : Int) : Bool := decide (s.there ≤ at_) && decide (at_ - s.there < s.left)

def SRep (w : World) (ok : Nat → Prop) (b : Nat) (s : Sp) : Prop := ok b ∧ s.ok ∧ Blk w b 147 s.cells
theorem SRep.keep {w w' : World} {ok ok' : Nat → Prop} {b : Nat} {s : Sp} (h : SRep w ok b s) (hk : Keep ok' w w') (hn : ∀ i, ok i → ok' i → False) : SRep w' ok b s :=
  ⟨h.1, h.2.1, hk.blk h.2.2 (fun x => hn _ h.1 x)⟩
theorem SRep.mono {w : World} {ok ok' : Nat → Prop} {b : Nat} {s : Sp} (h : SRep w ok b s) (hs : ∀ i, ok i → ok' i) : SRep w ok' b s := ⟨hs _ h.1, h.2⟩
theorem SRep.bound {w : World} {ok : Nat → Prop} {b : Nat} {s : Sp} (h : SRep w ok b s) : SRep w (fun i => ok i ∧ i < w.heap.size) b s := ⟨⟨h.1, h.2.2.lt⟩, h.2⟩
theorem SRep.drewN {w : World} {ok : Nat → Prop} {b : Nat} {s : Sp} (h : SRep w ok b s) (n : Nat) : SRep (w.drewN n) ok b s := h

def clampN (n : Int) : Int := if n < 0 then 0 else if 1048576 < n then 1048576 else n
theorem clampN_b (n : Int) : 0 ≤ clampN n ∧ clampN n ≤ 1048576 := by unfold clampN; (repeat' split) <;> omega
theorem within_calls (n : Int) (w : World) : Calls Tryz.prog 102 #[.int .i64 n] w fun e w' => e = .returned (.int .i64 (clampN n)) ∧ w = w' := by
  obtain ⟨m, hm⟩ : ∃ m, (if 1048576 < n then 1048576 else n) = m := ⟨_, rfl⟩
  obtain ⟨c, hc⟩ : ∃ c, (if 0 < m then m else 0) = c := ⟨_, rfl⟩
  have e : clampN n = c := by unfold clampN; rw [← hc, ← hm]; (repeat' split) <;> omega
  rw [e]
  clear e
  go_enter Tryz.func102, Tryz.ntmps102
  go_wp2
  go_ret
  exact ⟨rfl, rfl⟩

theorem New_calls (f n : Int) (w : World) :
    Calls Tryz.prog 64 #[.int .i64 f, .int .i64 n] w fun e w' => ∃ b, e = .returned (.pointer (some ⟨b, 0, none⟩)) ∧ SRep w' (fun i => w.heap.size ≤ i) b ⟨clampN f, 0, clampN f + clampN n, 0, clampN n, false⟩ ∧ Keep (fun _ => False) w w' := by
  have bf := clampN_b f
  have bn := clampN_b n
  obtain ⟨F, hF⟩ : ∃ F, clampN f = F := ⟨_, rfl⟩
  obtain ⟨N, hN⟩ : ∃ N, clampN n = N := ⟨_, rfl⟩
  rw [hF] at bf
  rw [hN] at bn
  rw [hF, hN]
  obtain ⟨bf0, bf1⟩ := bf
  obtain ⟨bn0, bn1⟩ := bn
  have HF := Lib.hid hF
  have HN := Lib.hid hN
  clear hF hN
  go_enter Tryz.func64, Tryz.ntmps64
  go_wp2_with fail
  refine (within_calls f w).mono ?_
  rintro e w1 ⟨rfl, rfl⟩
  rw [HF.out]
  go_wp2_with fail
  refine (within_calls n w).mono ?_
  rintro e w1 ⟨rfl, rfl⟩
  rw [HN.out]
  go_wp2_with fail
  go_ret
  exact ⟨_, rfl, ⟨Nat.le_refl _, by unfold Sp.ok; simp only []; omega, Blk.new w _ _⟩, (Keep.refl _ _).alloc _⟩

theorem Used_calls {ok : Nat → Prop} {b : Nat} {s : Sp} (w : World) (hr : SRep w ok b s) :
    Calls Tryz.prog 90 #[.pointer (some ⟨b, 0, none⟩)] w fun e w' => e = .returned (.int .i64 s.used) ∧ ∃ n, w' = w.drewN n := by
  obtain ⟨f0, u0, f1, u1, m, now⟩ := s
  obtain ⟨ob, hs, hb⟩ := hr
  unfold Sp.ok at hs
  simp only [] at hs
  obtain ⟨g0, g1, g2, g3, g4, g5, g6, g7, g8⟩ := hs
  have e0 := hb.cell 0
  have e1 := hb.cell 1
  have e2 := hb.cell 2
  have e3 := hb.cell 3
  have e4 := hb.cell 4
  have e5 := hb.cell 5
  have z1 := hb.frozen 1
  have z3 := hb.frozen 3
  have z5 := hb.frozen 5
  cases now
  all_goals
    simp [Sp.cells] at e0 e1 e2 e3 e4 e5
    have key : True := trivial
    go_enter Tryz.func90, Tryz.ntmps90
    go_wp2
    (try (go_quiet (fail)))
    (try go_wp2)
    first | go_ret2 | go_ret
    first | exact ⟨rfl, 0, rfl⟩ | exact ⟨rfl, _, rfl⟩ | exact ⟨rfl, _, World.drewN_drewN _ _ _⟩

theorem Left_calls {ok : Nat → Prop} {b : Nat} {s : Sp} (w : World) (hr : SRep w ok b s) :
    Calls Tryz.prog 91 #[.pointer (some ⟨b, 0, none⟩)] w fun e w' => e = .returned (.int .i64 s.left) ∧ ∃ n, w' = w.drewN n := by
  obtain ⟨f0, u0, f1, u1, m, now⟩ := s
  obtain ⟨ob, hs, hb⟩ := hr
  unfold Sp.ok at hs
  simp only [] at hs
  obtain ⟨g0, g1, g2, g3, g4, g5, g6, g7, g8⟩ := hs
  have e0 := hb.cell 0
  have e1 := hb.cell 1
  have e2 := hb.cell 2
  have e3 := hb.cell 3
  have e4 := hb.cell 4
  have e5 := hb.cell 5
  have z1 := hb.frozen 1
  have z3 := hb.frozen 3
  have z5 := hb.frozen 5
  cases now
  all_goals
    simp [Sp.cells] at e0 e1 e2 e3 e4 e5
    have key : True := trivial
    go_enter Tryz.func91, Tryz.ntmps91
    go_wp2
    (try (go_quiet (fail)))
    (try go_wp2)
    first | go_ret2 | go_ret
    first | exact ⟨rfl, 0, rfl⟩ | exact ⟨rfl, _, rfl⟩ | exact ⟨rfl, _, World.drewN_drewN _ _ _⟩

theorem Room_calls {ok : Nat → Prop} {b : Nat} {s : Sp} (w : World) (hr : SRep w ok b s) :
    Calls Tryz.prog 134 #[.pointer (some ⟨b, 0, none⟩)] w fun e w' => e = .returned (.int .i64 s.room) ∧ ∃ n, w' = w.drewN n := by
  obtain ⟨f0, u0, f1, u1, m, now⟩ := s
  obtain ⟨ob, hs, hb⟩ := hr
  unfold Sp.ok at hs
  simp only [] at hs
  obtain ⟨g0, g1, g2, g3, g4, g5, g6, g7, g8⟩ := hs
  have e0 := hb.cell 0
  have e1 := hb.cell 1
  have e2 := hb.cell 2
  have e3 := hb.cell 3
  have e4 := hb.cell 4
  have e5 := hb.cell 5
  have z1 := hb.frozen 1
  have z3 := hb.frozen 3
  have z5 := hb.frozen 5
  cases now
  all_goals
    simp [Sp.cells] at e0 e1 e2 e3 e4 e5
    have key : True := trivial
    go_enter Tryz.func134, Tryz.ntmps134
    go_wp2
    (try (go_quiet (fail)))
    (try go_wp2)
    first | go_ret2 | go_ret
    first | exact ⟨rfl, 0, rfl⟩ | exact ⟨rfl, _, rfl⟩ | exact ⟨rfl, _, World.drewN_drewN _ _ _⟩

theorem Begin_calls {ok : Nat → Prop} {b : Nat} {s : Sp} (w : World) (hr : SRep w ok b s) :
    Calls Tryz.prog 88 #[.pointer (some ⟨b, 0, none⟩)] w fun e w' => e = .returned (.tuple #[.int .i64 s.here, .int .i64 s.there]) ∧ ∃ n, w' = w.drewN n := by
  obtain ⟨f0, u0, f1, u1, m, now⟩ := s
  obtain ⟨ob, hs, hb⟩ := hr
  unfold Sp.ok at hs
  simp only [] at hs
  obtain ⟨g0, g1, g2, g3, g4, g5, g6, g7, g8⟩ := hs
  have e0 := hb.cell 0
  have e1 := hb.cell 1
  have e2 := hb.cell 2
  have e3 := hb.cell 3
  have e4 := hb.cell 4
  have e5 := hb.cell 5
  have z1 := hb.frozen 1
  have z3 := hb.frozen 3
  have z5 := hb.frozen 5
  cases now
  all_goals
    simp [Sp.cells] at e0 e1 e2 e3 e4 e5
    have key : True := trivial
    go_enter Tryz.func88, Tryz.ntmps88
    go_wp2
    (try (go_quiet (fail)))
    (try go_wp2)
    first | go_ret2 | go_ret
    first | exact ⟨rfl, 0, rfl⟩ | exact ⟨rfl, _, rfl⟩ | exact ⟨rfl, _, World.drewN_drewN _ _ _⟩

theorem has_calls {ok : Nat → Prop} {b : Nat} {s : Sp} (x : Bool) (a : Int) (w : World) (hr : SRep w ok b s) (ha9 : a ≤ 9223372036854775807) :
    Calls Tryz.prog 120 #[.pointer (some ⟨b, 0, none⟩), .int .i64 (if x then 1 else 0), .int .i64 a] w fun e w' =>
      e = .returned (.bool (if x then decide (s.f1 ≤ a) && decide (a - s.f1 < s.u1) else decide (s.f0 ≤ a) && decide (a - s.f0 < s.u0))) ∧ Keep (fun _ => False) w w' := by
  obtain ⟨f0, u0, f1, u1, m, now⟩ := s
  obtain ⟨ob, hs, hb⟩ := hr
  unfold Sp.ok at hs
  simp only [] at hs
  obtain ⟨g0, g1, g2, g3, g4, g5, g6, g7, g8⟩ := hs
  have e0 := hb.cell 0
  have e1 := hb.cell 1
  have e2 := hb.cell 2
  have e3 := hb.cell 3
  have hbl := hb.lt
  cases x
  · simp [Sp.cells] at e0 e1 e2 e3
    simp only [Bool.false_eq_true, if_false]
    by_cases ha : f0 ≤ a
    · have hd : decide (f0 ≤ a) = true := by simpa using ha
      obtain ⟨r, hr⟩ : ∃ r, decide (a - f0 < u0) = r := ⟨_, rfl⟩
      by_cases hb2 : a - f0 < u0
      · rw [show (decide (f0 ≤ a) && decide (a - f0 < u0)) = true from by simp [ha, hb2]]
        clear hd hr
        go_enter Tryz.func120, Tryz.ntmps120
        go_wp2
        go_ret
        exact ⟨rfl, (Keep.refl _ _).alloc _⟩
      · rw [show (decide (f0 ≤ a) && decide (a - f0 < u0)) = false from by simp [hb2]]
        clear hd hr
        go_enter Tryz.func120, Tryz.ntmps120
        go_wp2
        go_ret
        exact ⟨rfl, (Keep.refl _ _).alloc _⟩
    · rw [show (decide (f0 ≤ a) && decide (a - f0 < u0)) = false from by simp [ha]]
      go_enter Tryz.func120, Tryz.ntmps120
      go_wp2
      go_ret
      exact ⟨rfl, (Keep.refl _ _).alloc _⟩
  · simp [Sp.cells] at e0 e1 e2 e3
    simp only [if_true]
    by_cases ha : f1 ≤ a
    · by_cases hb2 : a - f1 < u1
      · rw [show (decide (f1 ≤ a) && decide (a - f1 < u1)) = true from by simp [ha, hb2]]
        go_enter Tryz.func120, Tryz.ntmps120
        go_wp2
        go_ret
        exact ⟨rfl, (Keep.refl _ _).alloc _⟩
      · rw [show (decide (f1 ≤ a) && decide (a - f1 < u1)) = false from by simp [hb2]]
        go_enter Tryz.func120, Tryz.ntmps120
        go_wp2
        go_ret
        exact ⟨rfl, (Keep.refl _ _).alloc _⟩
    · rw [show (decide (f1 ≤ a) && decide (a - f1 < u1)) = false from by simp [ha]]
      go_enter Tryz.func120, Tryz.ntmps120
      go_wp2
      go_ret
      exact ⟨rfl, (Keep.refl _ _).alloc _⟩

theorem Flip_calls {ok : Nat → Prop} {b : Nat} {s : Sp} (w : World) (hr : SRep w ok b s) :
    Calls Tryz.prog 86 #[.pointer (some ⟨b, 0, none⟩)] w fun e w' => e = .returned (.bool (decide (s.left ≤ 0))) ∧ SRep w' ok b s.flip ∧ Keep ok w w' := by
  obtain ⟨f0, u0, f1, u1, m, now⟩ := s
  have hr' := hr
  obtain ⟨ob, hs, hb⟩ := hr
  have hs' := hs
  unfold Sp.ok at hs
  simp only [] at hs
  obtain ⟨g0, g1, g2, g3, g4, g5, g6, g7, g8⟩ := hs
  have e0 := hb.cell 0
  have e1 := hb.cell 1
  have e2 := hb.cell 2
  have e3 := hb.cell 3
  have e4 := hb.cell 4
  have e5 := hb.cell 5
  have z1 := hb.frozen 1
  have z3 := hb.frozen 3
  have z5 := hb.frozen 5
  cases now
  all_goals
    simp [Sp.cells] at e0 e1 e2 e3 e4 e5
  · by_cases hl : 0 < u1
    · rw [show decide (Sp.left ⟨f0, u0, f1, u1, m, false⟩ ≤ 0) = false from by simp [Sp.left]; omega, show Sp.flip ⟨f0, u0, f1, u1, m, false⟩ = ⟨f0, u0, f1, u1, m, false⟩ from by simp [Sp.flip, Sp.left]; omega]
      go_enter Tryz.func86, Tryz.ntmps86
      go_wp2
      go_quiet (fail)
      go_wp2
      go_ret
      exact ⟨rfl, hr'.drewN _, (Keep.refl _ _).drewN _⟩
    · rw [show decide (Sp.left ⟨f0, u0, f1, u1, m, false⟩ ≤ 0) = true from by simp [Sp.left]; omega, show Sp.flip ⟨f0, u0, f1, u1, m, false⟩ = ⟨f0, u0, f1, u1, m, true⟩ from by simp [Sp.flip, Sp.left]; omega]
      have hb5 := fun n => (hb.drewN n).set_ 5 (.int .i64 1)
      go_enter Tryz.func86, Tryz.ntmps86
      go_wp2
      go_quiet (fail)
      go_wp2
      go_ret
      exact ⟨rfl, ⟨ob, hs', by simpa [Sp.cells] using hb5 nq⟩, ((Keep.refl _ _).drewN _).set_ (.inl ob) _⟩
  · by_cases hl : 0 < u0
    · rw [show decide (Sp.left ⟨f0, u0, f1, u1, m, true⟩ ≤ 0) = false from by simp [Sp.left]; omega, show Sp.flip ⟨f0, u0, f1, u1, m, true⟩ = ⟨f0, u0, f1, u1, m, true⟩ from by simp [Sp.flip, Sp.left]; omega]
      go_enter Tryz.func86, Tryz.ntmps86
      go_wp2
      go_quiet (fail)
      go_wp2
      go_ret
      exact ⟨rfl, hr'.drewN _, (Keep.refl _ _).drewN _⟩
    · rw [show decide (Sp.left ⟨f0, u0, f1, u1, m, true⟩ ≤ 0) = true from by simp [Sp.left]; omega, show Sp.flip ⟨f0, u0, f1, u1, m, true⟩ = ⟨f0, u0, f1, u1, m, false⟩ from by simp [Sp.flip, Sp.left]; omega]
      have hb5 := fun n => (hb.drewN n).set_ 5 (.int .i64 0)
      go_enter Tryz.func86, Tryz.ntmps86
      go_wp2
      go_quiet (fail)
      go_wp2
      go_ret
      exact ⟨rfl, ⟨ob, hs', by simpa [Sp.cells] using hb5 nq⟩, ((Keep.refl _ _).drewN _).set_ (.inl ob) _⟩

theorem has0_calls {ok : Nat → Prop} {b : Nat} {s : Sp} (a : Int) (w : World) (hr : SRep w ok b s) (ha9 : a ≤ 9223372036854775807) :
    Calls Tryz.prog 120 #[.pointer (some ⟨b, 0, none⟩), .int .i64 0, .int .i64 a] w fun e w' => e = .returned (.bool (decide (s.f0 ≤ a) && decide (a - s.f0 < s.u0))) ∧ Keep (fun _ => False) w w' := by
  simpa using has_calls false a w hr ha9
theorem has1_calls {ok : Nat → Prop} {b : Nat} {s : Sp} (a : Int) (w : World) (hr : SRep w ok b s) (ha9 : a ≤ 9223372036854775807) :
    Calls Tryz.prog 120 #[.pointer (some ⟨b, 0, none⟩), .int .i64 1, .int .i64 a] w fun e w' => e = .returned (.bool (decide (s.f1 ≤ a) && decide (a - s.f1 < s.u1))) ∧ Keep (fun _ => False) w w' := by
  simpa using has_calls true a w hr ha9

theorem In_calls {ok : Nat → Prop} {b : Nat} {s : Sp} (a : Int) (w : World) (hr : SRep w ok b s) (ha9 : a ≤ 9223372036854775807) :
    Calls Tryz.prog 77 #[.pointer (some ⟨b, 0, none⟩), .int .i64 a] w fun e w' => e = .returned (.bool (s.isIn a)) ∧ Keep (fun _ => False) w w' := by
  obtain ⟨f0, u0, f1, u1, m, now⟩ := s
  have hr' := hr
  obtain ⟨ob, hs, hb⟩ := hr
  have hs' := hs
  unfold Sp.ok at hs
  simp only [] at hs
  obtain ⟨g0, g1, g2, g3, g4, g5, g6, g7, g8⟩ := hs
  have e0 := hb.cell 0
  have e1 := hb.cell 1
  have e2 := hb.cell 2
  have e3 := hb.cell 3
  have e4 := hb.cell 4
  have e5 := hb.cell 5
  have z1 := hb.frozen 1
  have z3 := hb.frozen 3
  have z5 := hb.frozen 5
  cases now
  · simp [Sp.cells] at e0 e1 e2 e3 e4 e5
    obtain ⟨r, hr⟩ : ∃ r, Sp.isIn ⟨f0, u0, f1, u1, m, false⟩ a = r := ⟨_, rfl⟩
    rw [hr]
    have HR := Lib.hid hr
    clear hr
    go_enter Tryz.func77, Tryz.ntmps77
    go_wp2_with fail
    refine (has0_calls a w hr' ha9).mono ?_
    rintro e w1 ⟨rfl, k1⟩
    replace HR := HR.out
    simp only [Sp.isIn, Sp.here, Sp.there, Sp.used, Sp.left, Bool.false_eq_true, if_false] at HR
    simp only []
    rw [HR]
    clear HR
    go_wp2_with fail
    go_ret
    exact ⟨rfl, k1⟩
  · simp [Sp.cells] at e0 e1 e2 e3 e4 e5
    obtain ⟨r, hr⟩ : ∃ r, Sp.isIn ⟨f0, u0, f1, u1, m, true⟩ a = r := ⟨_, rfl⟩
    rw [hr]
    have HR := Lib.hid hr
    clear hr
    go_enter Tryz.func77, Tryz.ntmps77
    go_wp2_with fail
    refine (has1_calls a w hr' ha9).mono ?_
    rintro e w1 ⟨rfl, k1⟩
    replace HR := HR.out
    simp only [Sp.isIn, Sp.here, Sp.there, Sp.used, Sp.left, if_true] at HR
    simp only []
    rw [HR]
    clear HR
    go_wp2_with fail
    go_ret
    exact ⟨rfl, k1⟩

theorem From_calls {ok : Nat → Prop} {b : Nat} {s : Sp} (a : Int) (w : World) (hr : SRep w ok b s) (ha9 : a ≤ 9223372036854775807) :
    Calls Tryz.prog 98 #[.pointer (some ⟨b, 0, none⟩), .int .i64 a] w fun e w' => e = .returned (.bool (s.isFrom a)) ∧ Keep (fun _ => False) w w' := by
  obtain ⟨f0, u0, f1, u1, m, now⟩ := s
  have hr' := hr
  obtain ⟨ob, hs, hb⟩ := hr
  have hs' := hs
  unfold Sp.ok at hs
  simp only [] at hs
  obtain ⟨g0, g1, g2, g3, g4, g5, g6, g7, g8⟩ := hs
  have e0 := hb.cell 0
  have e1 := hb.cell 1
  have e2 := hb.cell 2
  have e3 := hb.cell 3
  have e4 := hb.cell 4
  have e5 := hb.cell 5
  have z1 := hb.frozen 1
  have z3 := hb.frozen 3
  have z5 := hb.frozen 5
  cases now
  · simp [Sp.cells] at e0 e1 e2 e3 e4 e5
    obtain ⟨r, hr⟩ : ∃ r, Sp.isFrom ⟨f0, u0, f1, u1, m, false⟩ a = r := ⟨_, rfl⟩
    rw [hr]
    have HR := Lib.hid hr
    clear hr
    go_enter Tryz.func98, Tryz.ntmps98
    go_wp2_with fail
    refine (has1_calls a w hr' ha9).mono ?_
    rintro e w1 ⟨rfl, k1⟩
    replace HR := HR.out
    simp only [Sp.isFrom, Sp.here, Sp.there, Sp.used, Sp.left, Bool.false_eq_true, if_false] at HR
    simp only []
    rw [HR]
    clear HR
    go_wp2_with fail
    go_ret
    exact ⟨rfl, k1⟩
  · simp [Sp.cells] at e0 e1 e2 e3 e4 e5
    obtain ⟨r, hr⟩ : ∃ r, Sp.isFrom ⟨f0, u0, f1, u1, m, true⟩ a = r := ⟨_, rfl⟩
    rw [hr]
    have HR := Lib.hid hr
    clear hr
    go_enter Tryz.func98, Tryz.ntmps98
    go_wp2_with fail
    refine (has0_calls a w hr' ha9).mono ?_
    rintro e w1 ⟨rfl, k1⟩
    replace HR := HR.out
    simp only [Sp.isFrom, Sp.here, Sp.there, Sp.used, Sp.left, if_true] at HR
    simp only []
    rw [HR]
    clear HR
    go_wp2_with fail
    go_ret
    exact ⟨rfl, k1⟩

theorem Drop_calls {ok : Nat → Prop} {b : Nat} {s : Sp} (w : World) (hr : SRep w ok b s) :
    Calls Tryz.prog 162 #[.pointer (some ⟨b, 0, none⟩)] w fun e w' => e = .returned (.bool (decide (0 < s.left))) ∧ SRep w' ok b s.drop ∧ Keep ok w w' := by
  obtain ⟨f0, u0, f1, u1, m, now⟩ := s
  have hr' := hr
  obtain ⟨ob, hs, hb⟩ := hr
  have hs' := hs
  unfold Sp.ok at hs
  simp only [] at hs
  obtain ⟨g0, g1, g2, g3, g4, g5, g6, g7, g8⟩ := hs
  have e0 := hb.cell 0
  have e1 := hb.cell 1
  have e2 := hb.cell 2
  have e3 := hb.cell 3
  have e4 := hb.cell 4
  have e5 := hb.cell 5
  have z1 := hb.frozen 1
  have z3 := hb.frozen 3
  have z5 := hb.frozen 5
  cases now
  all_goals
    simp [Sp.cells] at e0 e1 e2 e3 e4 e5
  · by_cases hl : u1 = 0
    · rw [show decide (0 < Sp.left ⟨f0, u0, f1, u1, m, false⟩) = false from by simp [Sp.left]; omega, show Sp.drop ⟨f0, u0, f1, u1, m, false⟩ = ⟨f0, u0, f1, u1, m, false⟩ from by simp [Sp.drop]; omega]
      have hbz : (u1 == 0) = true := by simp [hl]
      have HL := Lib.hid hl
      clear hl
      go_enter Tryz.func162, Tryz.ntmps162
      go_wp2
      go_quiet (fail)
      go_wp2
      go_ret
      exact ⟨rfl, hr'.drewN _, (Keep.refl _ _).drewN _⟩
    · rw [show decide (0 < Sp.left ⟨f0, u0, f1, u1, m, false⟩) = true from by simp [Sp.left]; omega, show Sp.drop ⟨f0, u0, f1, u1, m, false⟩ = ⟨f0, u0, f1, 0, m, false⟩ from by simp [Sp.drop]]
      have hbz : (u1 == 0) = false := by simp [hl]
      have hb5 := fun n => (hb.drewN n).set_ 3 (.int .i64 0)
      go_enter Tryz.func162, Tryz.ntmps162
      go_wp2
      go_quiet (fail)
      go_wp2
      go_region
      all_goals
        go_wp2
        go_ret
        refine ⟨rfl, ⟨ob, by unfold Sp.ok; simp only []; omega, ?_⟩, ?_⟩
        · first | simpa [Sp.cells] using hb5 _ | simpa [Sp.cells] using (hb5 nq).drew | simpa [Sp.cells] using (hb5 0).drewN _
        · first | exact ((Keep.refl _ _).drewN _).set_ (.inl ob) _ | exact (((Keep.refl _ _).drewN _).set_ (.inl ob) _).drew | exact ((Keep.refl _ _).set_ (.inl ob) _).drewN _
  · by_cases hl : u0 = 0
    · rw [show decide (0 < Sp.left ⟨f0, u0, f1, u1, m, true⟩) = false from by simp [Sp.left]; omega, show Sp.drop ⟨f0, u0, f1, u1, m, true⟩ = ⟨f0, u0, f1, u1, m, true⟩ from by simp [Sp.drop]; omega]
      have hbz : (u0 == 0) = true := by simp [hl]
      have HL := Lib.hid hl
      clear hl
      go_enter Tryz.func162, Tryz.ntmps162
      go_wp2
      go_quiet (fail)
      go_wp2
      go_ret
      exact ⟨rfl, hr'.drewN _, (Keep.refl _ _).drewN _⟩
    · rw [show decide (0 < Sp.left ⟨f0, u0, f1, u1, m, true⟩) = true from by simp [Sp.left]; omega, show Sp.drop ⟨f0, u0, f1, u1, m, true⟩ = ⟨f0, 0, f1, u1, m, true⟩ from by simp [Sp.drop]]
      have hbz : (u0 == 0) = false := by simp [hl]
      have hb5 := fun n => (hb.drewN n).set_ 1 (.int .i64 0)
      go_enter Tryz.func162, Tryz.ntmps162
      go_wp2
      go_quiet (fail)
      go_wp2
      go_region
      all_goals
        go_wp2
        go_ret
        refine ⟨rfl, ⟨ob, by unfold Sp.ok; simp only []; omega, ?_⟩, ?_⟩
        · first | simpa [Sp.cells] using hb5 _ | simpa [Sp.cells] using (hb5 nq).drew | simpa [Sp.cells] using (hb5 0).drewN _
        · first | exact ((Keep.refl _ _).drewN _).set_ (.inl ob) _ | exact (((Keep.refl _ _).drewN _).set_ (.inl ob) _).drew | exact ((Keep.refl _ _).set_ (.inl ob) _).drewN _

theorem Room_val {ok : Nat → Prop} {b : Nat} {s : Sp} (w : World) (hr : SRep w ok b s) :
    Calls Tryz.prog 134 #[.pointer (some ⟨b, 0, none⟩)] w fun e w' => e = .returned (.int .i64 s.room) ∧ ∃ n, w' = w.drewN n := Room_calls w hr

theorem Take_calls {ok : Nat → Prop} {b : Nat} {s : Sp} (n : Int) (w : World) (hr : SRep w ok b s) :
    Calls Tryz.prog 113 #[.pointer (some ⟨b, 0, none⟩), .int .i64 n] w fun e w' =>
      e = .returned (.tuple #[.int .i64 (if s.fits n then s.here + s.used else 0), .bool (s.fits n)]) ∧ SRep w' ok b (s.take n) ∧ Keep ok w w' := by
  obtain ⟨f0, u0, f1, u1, m, now⟩ := s
  have hr' := hr
  obtain ⟨ob, hs, hb⟩ := hr
  have hs' := hs
  unfold Sp.ok at hs
  simp only [] at hs
  obtain ⟨g0, g1, g2, g3, g4, g5, g6, g7, g8⟩ := hs
  have e0 := hb.cell 0
  have e1 := hb.cell 1
  have e2 := hb.cell 2
  have e3 := hb.cell 3
  have e4 := hb.cell 4
  have e5 := hb.cell 5
  have z1 := hb.frozen 1
  have z3 := hb.frozen 3
  have z5 := hb.frozen 5
  by_cases h1 : n < 1
  · rw [show Sp.fits ⟨f0, u0, f1, u1, m, now⟩ n = false from by simp [Sp.fits]; omega, show Sp.take ⟨f0, u0, f1, u1, m, now⟩ n = ⟨f0, u0, f1, u1, m, now⟩ from by simp [Sp.take, Sp.fits]; omega]
    go_enter Tryz.func113, Tryz.ntmps113
    go_wp2
    go_ret2
    exact ⟨rfl, hr', Keep.refl _ _⟩
  · obtain ⟨R, hR⟩ : ∃ R, Sp.room ⟨f0, u0, f1, u1, m, now⟩ = R := ⟨_, rfl⟩
    by_cases h2 : R < n
    · rw [show Sp.fits ⟨f0, u0, f1, u1, m, now⟩ n = false from by simp [Sp.fits, hR]; omega, show Sp.take ⟨f0, u0, f1, u1, m, now⟩ n = ⟨f0, u0, f1, u1, m, now⟩ from by simp [Sp.take, Sp.fits, hR]; omega]
      have HR := Lib.hid hR
      clear hR
      go_enter Tryz.func113, Tryz.ntmps113
      go_wp2_with fail
      refine (Room_calls w hr').mono ?_
      rintro e w1 ⟨rfl, k, rfl⟩
      rw [HR.out]
      go_wp2_with fail
      go_ret2
      exact ⟨rfl, hr'.drewN _, (Keep.refl _ _).drewN _⟩
    · have hfit : Sp.fits ⟨f0, u0, f1, u1, m, now⟩ n = true := by simp [Sp.fits, hR]; omega
      rw [hfit]
      unfold Sp.take
      rw [hfit]
      simp only [if_true]
      have HR := Lib.hid hR
      have HRR := Lib.hid (show Sp.room ⟨f0, u0, f1, u1, m, now⟩ = R from hR)
      unfold Sp.room Sp.used at hR
      clear hfit
      cases now
      · simp [Sp.cells] at e0 e1 e2 e3 e4 e5
        simp only [Bool.false_eq_true, if_false] at hR
        have hn2 : n ≤ m - u0 := by omega
        clear hR
        have hb5 := fun k => (hb.drewN k).set_ 1 (.int .i64 (u0 + n))
        go_enter Tryz.func113, Tryz.ntmps113
        go_wp2_with fail
        refine (Room_calls w hr').mono ?_
        rintro e w1 ⟨rfl, k, rfl⟩
        rw [HR.out]
        go_wp2_with fail
        go_quiet (fail)
        go_wp2
        go_quiet (fail)
        go_wp2
        go_ret2
        exact ⟨by simp [Sp.here, Sp.used], ⟨ob, by unfold Sp.ok; simp only [Bool.false_eq_true, if_false]; omega, by simpa [Sp.cells] using hb5 _⟩, ((Keep.refl _ _).drewN _).set_ (.inl ob) _⟩
      · simp [Sp.cells] at e0 e1 e2 e3 e4 e5
        simp only [if_true] at hR
        have hn2 : n ≤ m - u1 := by omega
        clear hR
        have hb5 := fun k => (hb.drewN k).set_ 3 (.int .i64 (u1 + n))
        go_enter Tryz.func113, Tryz.ntmps113
        go_wp2_with fail
        refine (Room_calls w hr').mono ?_
        rintro e w1 ⟨rfl, k, rfl⟩
        rw [HR.out]
        go_wp2_with fail
        go_quiet (fail)
        go_wp2
        go_quiet (fail)
        go_wp2
        go_ret2
        exact ⟨by simp [Sp.here, Sp.used], ⟨ob, by unfold Sp.ok; simp only [if_true]; omega, by simpa [Sp.cells] using hb5 _⟩, ((Keep.refl _ _).drewN _).set_ (.inl ob) _⟩
end Go.Proofs.YtihmkkjmnbehbaaGreat.Bp
/- Contracts of small functions that many laws use: Ints of two lists. No condition. -/
set_option linter.unusedVariables false
set_option linter.unusedSimpArgs false
namespace Go.Proofs.YtihmkkjmnbehbaaGreat.Sm
open Go.RowKit Go.Proofs.YtihmkkjmnbehbaaGreat.W

theorem info_int : (Tryz.prog.info? 3).map (fun i => (i.zero, i.size, i.bytes)) = some (some (.int .i64 0), 1, 8) := by kernel_rfl

theorem take_next {α : Type} {l l' : List α} {k : Nat} (d : α) (h : l.take k = l'.take k) (h1 : k < l.length) (h2 : k < l'.length) (e : l[k]?.getD d = l'[k]?.getD d) : l.take (k + 1) = l'.take (k + 1) := by
  rw [List.take_add_one, List.take_add_one, h]
  congr 1
  simp [h1, h2] at e ⊢
  exact e
theorem ne_at {α : Type} {l l' : List α} {k : Nat} (d : α) (e : ¬ l[k]?.getD d = l'[k]?.getD d) : l ≠ l' := by
  rintro rfl; exact e rfl

end Go.Proofs.YtihmkkjmnbehbaaGreat.Sm
/- The contract of Cut. No condition. -/
set_option linter.unusedVariables false
set_option linter.unusedSimpArgs false
namespace Go.Proofs.YtihmkkjmnbehbaaGreat.Sm
open Go.RowKit Go.Proofs.YtihmkkjmnbehbaaGreat.W

def cut (n a b : Int) : Int := if n < a then a else if b < n then b else n
end Go.Proofs.YtihmkkjmnbehbaaGreat.Sm
/- Contracts of slices.Clone and slices.Clip of []int. Condition: the slice is a whole block. -/
set_option linter.unusedVariables false
set_option linter.unusedSimpArgs false
namespace Go.Proofs.YtihmkkjmnbehbaaGreat.Sm
open Go.RowKit Go.Proofs.YtihmkkjmnbehbaaGreat.W

/-- Clone of a slice that is a whole block: new memory. -/
theorem Clone_calls {L : List Int} {g : Nat} (w : World) (hl : L.length ≤ 1048576) (hg : Blk w g 3 (ints L)) :
    Calls Tryz.prog 97 #[.slice (some ⟨g, 0, none⟩) L.length L.length] w fun e w' =>
      ∃ A c, e = .returned (.slice A L.length c) ∧ L.length ≤ c ∧ w'.ownsRow w.heap.size 3 1 (.slice A L.length c) L.length (L.map (Value.int .i64)) ∧ Keep (fun _ => False) w w' := by
  obtain ⟨i, hi, hz, hs, hb⟩ := info_parts info_int
  have hnil := fun (W : World) => Lib.run_eql_slice_nil (P := Tryz.prog) W 53 3 (some ⟨g, 0, none⟩) L.length L.length 0 0 Tryz.underlying53
  have hglt := hg.lt
  go_enter Tryz.func97, Tryz.ntmps97
  go_wp2_with (at_builtin; refine wpList_append_own _ rfl _ _ 53 rfl w.heap.size 3 i (.int .i64 0) 1 8 Tryz.underlying53 hi hz hs hb rfl (by decide) _ 0 [] rfl ?c0 ⟨g, 0, none⟩ L.length L.length (L.map (Value.int .i64)) rfl ?c1 ?c2 ?c3 ?c4 ?c5 ?c6 ?_)
  case c0 => exact World.ownsRow_lit w #[] 0 (Nat.le_refl _) (by unfold maxLen; omega) (by simp)
  case c1 => simp
  case c2 =>
    intro j u hu
    have hj : j < L.length := by
      rcases Nat.lt_or_ge j L.length with h | h
      · exact h
      · rw [List.getElem?_eq_none (by simpa using h)] at hu; cases hu
    rw [Addr.add_lit, Nat.zero_add]
    have h1 : Blk (w.alloc (.cells #[] 3)) g 3 (ints L) := hg.alloc _
    rw [h1.cell j]
    simpa using hu
  case c3 => intro u hu; simp at hu; obtain ⟨x, _, rfl⟩ := hu; rfl
  case c4 => unfold maxLen; omega
  case c5 => omega
  case c6 => simp
  intro v' w1 hown hgrow _
  obtain ⟨A, c, hv, hlc⟩ : ∃ A c, v' = .slice A L.length c ∧ L.length ≤ c := by
    rcases hown.2 with ⟨h, h0⟩ | ⟨g', cap, cur, h, _, _, h2, _⟩
    · exact ⟨none, 0, by rw [h, show L.length = 0 by omega], by omega⟩
    · exact ⟨_, cap, h, h2⟩
  subst hv
  go_wp2
  go_ret
  refine ⟨A, c, rfl, hlc, by simpa using hown, ?_⟩
  exact ((Keep.refl _ w).alloc _).trans (Keep.of_grown (ok := fun i => w.heap.size ≤ i) hgrow (by intro g h; simp [Value.ownBlock] at h; omega)) (fun i h => .inr h)

theorem Clip_calls {A : Option Addr} {n c : Nat} (w : World) (h : n ≤ c) (hn : n ≤ 9223372036854775807) :
    Calls Tryz.prog 56 #[.slice A n c] w fun e w' => e = .returned (.slice A n n) ∧ w = w' := by
  go_enter Tryz.func56, Tryz.ntmps56
  go_wp2
  go_ret
  exact ⟨rfl, rfl⟩

end Go.Proofs.YtihmkkjmnbehbaaGreat.Sm
