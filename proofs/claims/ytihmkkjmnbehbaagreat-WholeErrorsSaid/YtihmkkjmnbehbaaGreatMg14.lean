/- Texts of the whole heap, joined: Card CardSep. No condition beside those that each lemma names. -/
import Derived.Test.YtihmkkjmnbehbaaGreatProg
import Derived.Test.YtihmkkjmnbehbaaGreatMg00
import Derived.Test.YtihmkkjmnbehbaaGreatMg01
import Derived.Laws.MakeOwn
import Derived.Laws.Entries
import Derived.Outline
import Derived.IntWalk
/- Contracts of package card over a predicate on memory. No condition. -/
set_option linter.unusedVariables false
set_option linter.unusedSimpArgs false
namespace Go.Proofs.YtihmkkjmnbehbaaGreat.Cd
open Go.RowKit Go.Proofs.YtihmkkjmnbehbaaGreat.W

theorem info_bool : (Tryz.prog.info? 4).map (fun i => (i.zero, i.size, i.bytes)) = some (some (.bool false), 1, 1) := by kernel_rfl
def bools (m : List Bool) : Array Value := (m.map Value.bool).toArray
theorem bools_get {m : List Bool} {i : Nat} (h : i < m.length) : (bools m)[i]? = some (.bool (m[i]?.getD false)) := by simp [bools, h]
theorem bools_set (m : List Bool) (i : Nat) (x : Bool) : (bools m).setIfInBounds i (.bool x) = bools (m.set i x) := by simp [bools, List.map_set]
theorem bools_size (m : List Bool) : (bools m).size = m.length := by simp [bools]

theorem run_make_rowN {P : Program} (t e : TypeId) (i : TypeInfo) (z : Value) (ht : P.underlying t = some (.slice e)) (hi : P.info? e = some i) (hz : i.zero = some z)
    (kl kc : IntKind) (n c : Nat) (hnc : n ≤ c) (hbytes : i.bytes * c ≤ 281474976710656) (h63 : c ≤ 9223372036854775807) (w : World) :
    (Instr.makeSlice t (.int kl (n : Int)) (.int kc (c : Int))).run P w = .ok (.slice (some ⟨w.heap.size, 0, none⟩) n c) (w.alloc (.cells (madeCells z.cells (c * i.size)) e)) := by
  have hb : (i.bytes : Int) * (c : Int) ≤ 281474976710656 := by
    have h : ((i.bytes * c : Nat) : Int) ≤ 281474976710656 := by omega
    rwa [Int.natCast_mul] at h
  have hr := run_make (P := P) w t e i z ht hi hz kl kc n c (by omega) (by omega) hb (by omega)
  simp only [Int.toNat_natCast] at hr
  exact hr

/-- Marks: from a place on, so many words, so many a mark. -/
structure Cd where
  f : Int
  w : Int
  c : Int
  m : List Bool
def Cd.num (w c : Int) : Int := w / c + (if 1 < w % c then 1 else w % c)
def Cd.ok (s : Cd) : Prop := 0 ≤ s.f ∧ s.f ≤ 1048576 ∧ 0 ≤ s.w ∧ s.w ≤ 1048576 ∧ 1 ≤ s.c ∧ s.c ≤ 1048576 ∧ (s.m.length : Int) = Cd.num s.w s.c
theorem num_b {w c : Int} (h0 : 0 ≤ w) (h1 : 1 ≤ c) : 0 ≤ Cd.num w c ∧ Cd.num w c ≤ w + 1 := by
  have a := Int.emod_nonneg w (by omega : c ≠ 0)
  have b := Int.ediv_nonneg h0 (by omega : 0 ≤ c)
  have d := Int.ediv_le_self c h0
  unfold Cd.num; split <;> omega
/-- A place in the space has a mark. -/
theorem num_lt {w c x : Int} (h1 : 1 ≤ c) (hx0 : 0 ≤ x) (hx : x < w) : 0 ≤ x / c ∧ x / c < Cd.num w c := by
  have b := Int.ediv_nonneg hx0 (by omega : 0 ≤ c)
  refine ⟨b, ?_⟩
  have e1 := Int.mul_ediv_add_emod w c
  have e2 := Int.mul_ediv_add_emod x c
  have r1 := Int.emod_nonneg w (by omega : c ≠ 0)
  have r2 := Int.emod_nonneg x (by omega : c ≠ 0)
  have r3 := Int.emod_lt_of_pos w (by omega : 0 < c)
  have hle : x / c ≤ w / c := Int.ediv_le_ediv (by omega) (by omega)
  unfold Cd.num
  by_cases hz : w % c = 0
  · have : x / c < w / c := by
      rcases Int.lt_or_le (x / c) (w / c) with h | h
      · exact h
      · have : c * (w / c) ≤ c * (x / c) := Int.mul_le_mul_of_nonneg_left h (by omega)
        omega
    split <;> omega
  · split <;> omega

def CRep (w : World) (ok : Nat → Prop) (b : Nat) (s : Cd) : Prop :=
  ∃ g, ok b ∧ ok g ∧ s.ok ∧ Blk w b 179 #[.int .i64 s.f, .int .i64 s.w, .int .i64 s.c, .slice (some ⟨g, 0, none⟩) s.m.length s.m.length] ∧ Blk w g 4 (bools s.m)
section
variable {w w' : World} {ok ok' : Nat → Prop} {b : Nat} {s : Cd}
theorem CRep.keep (h : CRep w ok b s) (hk : Keep ok' w w') (hn : ∀ i, ok i → ok' i → False) : CRep w' ok b s := by
  obtain ⟨g, ob, og, hs, hb, hg⟩ := h
  exact ⟨g, ob, og, hs, hk.blk hb (fun x => hn _ ob x), hk.blk hg (fun x => hn _ og x)⟩
theorem CRep.mono (h : CRep w ok b s) (hs : ∀ i, ok i → ok' i) : CRep w ok' b s := by
  obtain ⟨g, ob, og, h1, hb, hg⟩ := h
  exact ⟨g, hs _ ob, hs _ og, h1, hb, hg⟩
theorem CRep.bound (h : CRep w ok b s) : CRep w (fun i => ok i ∧ i < w.heap.size) b s := by
  obtain ⟨g, ob, og, h1, hb, hg⟩ := h
  exact ⟨g, ⟨ob, hb.lt⟩, ⟨og, hg.lt⟩, h1, hb, hg⟩
theorem CRep.drewN (h : CRep w ok b s) (n : Nat) : CRep (w.drewN n) ok b s := h
end

def clampN (n : Int) : Int := if n < 0 then 0 else if 1048576 < n then 1048576 else n
def clamp1 (n : Int) : Int := if n < 1 then 1 else if 1048576 < n then 1048576 else n

set_option maxHeartbeats 1000000 in
theorem New_calls (f n c : Int) (w : World) :
    Calls Tryz.prog 105 #[.int .i64 f, .int .i64 n, .int .i64 c] w fun e w' => ∃ b, e = .returned (.pointer (some ⟨b, 0, none⟩)) ∧
      CRep w' (fun i => w.heap.size ≤ i) b ⟨clampN f, clampN n, clamp1 c, List.replicate (Cd.num (clampN n) (clamp1 c)).toNat false⟩ ∧ Keep (fun _ => False) w w' := by
  obtain ⟨f1, hf1⟩ : ∃ m, (if 1048576 < f then 1048576 else f) = m := ⟨_, rfl⟩
  obtain ⟨F, hF⟩ : ∃ c, (if 0 < f1 then f1 else 0) = c := ⟨_, rfl⟩
  obtain ⟨n1, hn1⟩ : ∃ m, (if 1048576 < n then 1048576 else n) = m := ⟨_, rfl⟩
  obtain ⟨N, hN⟩ : ∃ c, (if 0 < n1 then n1 else 0) = c := ⟨_, rfl⟩
  obtain ⟨c1, hc1⟩ : ∃ m, (if 1048576 < c then 1048576 else c) = m := ⟨_, rfl⟩
  obtain ⟨C, hC⟩ : ∃ m, (if 1 < c1 then c1 else 1) = m := ⟨_, rfl⟩
  have eF : clampN f = F ∧ 0 ≤ F ∧ F ≤ 1048576 := by unfold clampN; rw [← hF, ← hf1]; (repeat' split) <;> omega
  have eN : clampN n = N ∧ 0 ≤ N ∧ N ≤ 1048576 := by unfold clampN; rw [← hN, ← hn1]; (repeat' split) <;> omega
  have eC : clamp1 c = C ∧ 1 ≤ C ∧ C ≤ 1048576 := by unfold clamp1; rw [← hC, ← hc1]; (repeat' split) <;> omega
  rw [eF.1, eN.1, eC.1]
  have bF := eF.2
  have bN := eN.2
  have bC := eC.2
  clear eF eN eC
  obtain ⟨bF0, bF1⟩ := bF
  obtain ⟨bN0, bN1⟩ := bN
  obtain ⟨bC0, bC1⟩ := bC
  obtain ⟨i, hi, hz, hs, hby⟩ := info_parts info_bool
  have bD := num_b bN0 bC0
  unfold Cd.num at bD
  obtain ⟨D, hD⟩ : ∃ D : Nat, (N / C + (if 1 < N % C then 1 else N % C)) = (D : Int) := ⟨(N / C + (if 1 < N % C then 1 else N % C)).toNat, by omega⟩
  have hD' : Cd.num N C = (D : Int) := hD
  rw [hD] at bD
  obtain ⟨bD0, bD1⟩ := bD
  have hmk : ∀ W : World, (Instr.makeSlice 45 (.int .i64 (D : Int)) (.int .i64 (D : Int))).run Tryz.prog W = .ok (.slice (some ⟨W.heap.size, 0, none⟩) D D) (W.alloc (.cells (bools (List.replicate D false)) 4)) := fun W => by
    have h := run_make_rowN 45 4 i (.bool false) Tryz.underlying45 hi hz .i64 .i64 D D (Nat.le_refl _) (by rw [hby]; omega) (by omega) W
    rw [h, hs]
    have : madeCells (Value.bool false).cells (D * 1) = bools (List.replicate D false) := by
      apply Array.ext
      · simp [madeCells, bools]
      · intro k h1 h2; simp [madeCells, bools, Value.cells, Nat.mod_one]
    rw [this]
  have hfin : ∀ W : World, W.heap.size = w.heap.size → Keep (fun _ => False) w W → CRep ((W.alloc (.cells (bools (List.replicate D false)) 4)).alloc (.cells #[.int .i64 F, .int .i64 N, .int .i64 C, .slice (some ⟨w.heap.size, 0, none⟩) D D] 179)) (fun i => w.heap.size ≤ i) (w.heap.size + 1) ⟨F, N, C, List.replicate D false⟩ := fun W hs hk => by
    have h1 := Blk.new W 4 (bools (List.replicate D false))
    rw [hs] at h1
    have h2 := Blk.new (W.alloc (.cells (bools (List.replicate D false)) 4)) 179 #[.int .i64 F, .int .i64 N, .int .i64 C, .slice (some ⟨w.heap.size, 0, none⟩) D D]
    have h3 : (W.alloc (.cells (bools (List.replicate D false)) 4)).heap.size = w.heap.size + 1 := by show (W.heap.push _).size = _; rw [Array.size_push, hs]
    rw [h3] at h2
    exact ⟨w.heap.size, by simp, Nat.le_refl _, ⟨bF0, bF1, bN0, bN1, bC0, bC1, by simpa using hD'.symm⟩, by simpa using h2, h1.alloc _⟩
  rw [hD']
  rw [Int.toNat_natCast]
  have HF := Lib.hid hfin
  clear hfin hD' hi hz hs hby
  go_enter Tryz.func105, Tryz.ntmps105
  go_wp2
  go_region
  all_goals
    go_wp2
    all_goals
      go_ret
      exact ⟨_, rfl, (HF.out w rfl (Keep.refl _ _)).drewN 1, (((Keep.refl _ _).alloc _).alloc _).drew⟩

/-- A place's mark; below 0: none. -/
def Cd.of_ (s : Cd) (a : Int) : Int := if s.f ≤ a ∧ a - s.f < s.w then (a - s.f) / s.c else -1
theorem of_b {s : Cd} (hs : s.ok) (a : Int) : s.of_ a = -1 ∨ (0 ≤ s.of_ a ∧ s.of_ a < s.m.length) := by
  obtain ⟨h0, h1, h2, h3, h4, h5, h6⟩ := hs
  unfold Cd.of_
  split
  · have := num_lt (w := s.w) (x := a - s.f) h4 (by omega) (by omega)
    right; omega
  · exact .inl rfl

theorem of_calls {ok : Nat → Prop} {b : Nat} {s : Cd} (a : Int) (w : World) (hr : CRep w ok b s) (ha9 : a ≤ 9223372036854775807) :
    Calls Tryz.prog 171 #[.pointer (some ⟨b, 0, none⟩), .int .i64 a] w fun e w' => e = .returned (.int .i64 (s.of_ a)) ∧ ∃ n, w' = w.drewN n := by
  obtain ⟨g, ob, og, hs, hb, hg⟩ := hr
  obtain ⟨f, n, c, m⟩ := s
  obtain ⟨h0, h1, h2, h3, h4, h5, h6⟩ := hs
  simp only [] at h0 h1 h2 h3 h4 h5
  clear h6
  have e0 := hb.cell 0
  have e1 := hb.cell 1
  have e2 := hb.cell 2
  simp at e0 e1 e2
  rcases (by omega : a < f ∨ (f ≤ a ∧ n ≤ a - f) ∨ (f ≤ a ∧ a - f < n)) with hx | ⟨hx, hy⟩ | ⟨hx, hy⟩
  · rw [show Cd.of_ ⟨f, n, c, m⟩ a = -1 from if_neg (by simp; omega)]
    go_enter Tryz.func171, Tryz.ntmps171
    go_wp2
    go_quiet (fail)
    go_wp2
    go_ret
    exact ⟨rfl, _, rfl⟩
  · rw [show Cd.of_ ⟨f, n, c, m⟩ a = -1 from if_neg (by simp; omega)]
    have hw := IntWalk.i64_in (a - f) (by omega)
    go_enter Tryz.func171, Tryz.ntmps171
    go_wp2
    go_quiet (fail)
    go_wp2
    go_ret
    exact ⟨rfl, _, rfl⟩
  · have hd0 := Int.ediv_nonneg (by omega : 0 ≤ a - f) (by omega : 0 ≤ c)
    have hd1 := Int.ediv_le_self c (by omega : 0 ≤ a - f)
    rw [show Cd.of_ ⟨f, n, c, m⟩ a = (a - f) / c from if_pos (by simp; omega)]
    have hw := IntWalk.i64_in (a - f) (by omega)
    have hq := IntWalk.i64_quo (a - f) c (by omega)
    have hc0 : (c == 0) = false := by simp; omega
    have hc1 : ¬ c = 0 := by omega
    go_enter Tryz.func171, Tryz.ntmps171
    go_wp2
    go_quiet (fail)
    go_wp2
    go_quiet (fail)
    go_wp2
    go_ret
    exact ⟨rfl, _, World.drewN_drewN _ _ _⟩

theorem Mark_calls {ok : Nat → Prop} {b : Nat} {s : Cd} (a : Int) (w : World) (hr : CRep w ok b s) (ha9 : a ≤ 9223372036854775807) :
    Calls Tryz.prog 142 #[.pointer (some ⟨b, 0, none⟩), .int .i64 a] w fun e w' =>
      e = .returned (.bool (decide (0 ≤ s.of_ a))) ∧ CRep w' ok b { s with m := if 0 ≤ s.of_ a then s.m.set (s.of_ a).toNat true else s.m } ∧ Keep ok w w' := by
  have hr' := hr
  obtain ⟨g, ob, og, hs, hb, hg⟩ := hr
  rcases of_b hs a with hx | ⟨hx, hy⟩
  · rw [hx, show decide ((0 : Int) ≤ -1) = false from by decide, if_neg (by omega)]
    have HX := Lib.hid hx
    clear hx hb hg
    go_enter Tryz.func142, Tryz.ntmps142
    go_wp2_with fail
    refine (of_calls a w hr' ha9).mono ?_
    rintro e w1 ⟨rfl, n, rfl⟩
    rw [HX.out]
    go_wp2_with fail
    go_ret
    exact ⟨rfl, hr'.drewN n, (Keep.refl _ _).drewN n⟩
  · rw [if_pos hx, show decide (0 ≤ s.of_ a) = true from by simpa using hx]
    have hgb : g ≠ b := fun h => by subst h; exact absurd rfl (hg.ne_ hb (by decide))
    obtain ⟨i, hi⟩ : ∃ i : Nat, s.of_ a = (i : Int) := ⟨(s.of_ a).toNat, by omega⟩
    rw [hi] at hy hx ⊢
    have hil : i < s.m.length := by omega
    have e3 := hb.cell 3
    simp at e3
    have ei : w.cell? ⟨g, i, none⟩ = some (.bool (s.m[i]?.getD false)) := by rw [hg.cell, bools_get hil]
    have zi := hg.frozen i
    have hg2 := hg.set_ i (.bool true)
    rw [bools_set] at hg2
    have hb2 := hb.far (p := ⟨g, i, none⟩) (Ne.symm hgb) (.bool true)
    have hR : CRep (w.setCell ⟨g, i, none⟩ (.bool true)) ok b { s with m := s.m.set i true } :=
      ⟨g, ob, og, by obtain ⟨h0, h1, h2, h3, h4, h5, h6⟩ := hs; exact ⟨h0, h1, h2, h3, h4, h5, by simpa using h6⟩, by simpa using hb2, hg2⟩
    have hK : Keep ok w (w.setCell ⟨g, i, none⟩ (.bool true)) := (Keep.refl _ _).set_ (.inl og) _
    rw [Int.toNat_natCast]
    have HI := Lib.hid hi
    have hR' : ∀ n, CRep ((w.drewN n).setCell ⟨g, i, none⟩ (.bool true)) ok b { s with m := s.m.set i true } := fun n => hR
    have hK' : ∀ n, Keep ok w ((w.drewN n).setCell ⟨g, i, none⟩ (.bool true)) := fun n => ((Keep.refl _ _).drewN n).set_ (.inl og) _
    have HR := Lib.hid hR'
    have HK := Lib.hid hK'
    clear hi hb hg hb2 hg2 hs hR hK hR' hK'
    go_enter Tryz.func142, Tryz.ntmps142
    go_wp2_with fail
    refine (of_calls a w hr' ha9).mono ?_
    rintro e w1 ⟨rfl, n, rfl⟩
    rw [HI.out]
    go_wp2_with fail
    go_ret
    exact ⟨rfl, HR.out n, HK.out n⟩

def Cd.marked (s : Cd) (a : Int) : Bool := if 0 ≤ s.of_ a then s.m[(s.of_ a).toNat]?.getD false else false
def Cd.isMark (s : Cd) (k : Int) : Bool := if 0 ≤ k then s.m[k.toNat]?.getD false else false
theorem isMark_at {s : Cd} {k : Int} (h : s.isMark k = true) : 0 ≤ k ∧ k < s.m.length ∧ s.m[k.toNat]? = some true := by
  unfold Cd.isMark at h
  by_cases h0 : 0 ≤ k
  · rw [if_pos h0] at h
    rcases Nat.lt_or_ge k.toNat s.m.length with hl | hl
    · exact ⟨h0, by omega, by simpa [List.getElem?_eq_getElem hl] using h⟩
    · rw [List.getElem?_eq_none hl] at h; simp at h
  · rw [if_neg h0] at h; cases h

theorem Clear_calls {ok : Nat → Prop} {b : Nat} {s : Cd} (k : Int) (w : World) (hr : CRep w ok b s) :
    Calls Tryz.prog 158 #[.pointer (some ⟨b, 0, none⟩), .int .i64 k] w fun e w' =>
      e = .returned (.bool (s.isMark k)) ∧ CRep w' ok b { s with m := if s.isMark k then s.m.set k.toNat false else s.m } ∧ Keep ok w w' := by
  have hr' := hr
  obtain ⟨g, ob, og, hs, hb, hg⟩ := hr
  have e3 := hb.cell 3
  simp at e3
  rcases (by omega : k < 0 ∨ (0 ≤ k ∧ (s.m.length : Int) ≤ k) ∨ (0 ≤ k ∧ k < s.m.length)) with hx | ⟨hx, hy⟩ | ⟨hx, hy⟩
  · rw [show s.isMark k = false from if_neg (by omega), if_neg (by simp)]
    clear hb hg
    go_enter Tryz.func158, Tryz.ntmps158
    go_wp2
    go_ret
    exact ⟨rfl, hr', Keep.refl _ _⟩
  · rw [show s.isMark k = false from by unfold Cd.isMark; rw [if_pos hx, List.getElem?_eq_none (by omega)]; rfl, if_neg (by simp)]
    clear hb hg
    go_enter Tryz.func158, Tryz.ntmps158
    go_wp2
    go_ret
    exact ⟨rfl, hr', Keep.refl _ _⟩
  · obtain ⟨i, rfl⟩ : ∃ i : Nat, k = (i : Int) := ⟨k.toNat, by omega⟩
    have hil : i < s.m.length := by omega
    have ei : w.cell? ⟨g, i, none⟩ = some (.bool (s.m[i]?.getD false)) := by rw [hg.cell, bools_get hil]
    rw [show s.isMark (i : Int) = s.m[i]?.getD false from by unfold Cd.isMark; rw [if_pos hx, Int.toNat_natCast]]
    rw [Int.toNat_natCast]
    have hgb : g ≠ b := fun h => by subst h; exact absurd rfl (hg.ne_ hb (by decide))
    have hg2 := hg.set_ i (.bool false)
    rw [bools_set] at hg2
    have hb2 := hb.far (p := ⟨g, i, none⟩) (Ne.symm hgb) (.bool false)
    have zi := hg.frozen i
    have hR : CRep (w.setCell ⟨g, i, none⟩ (.bool false)) ok b { s with m := s.m.set i false } :=
      ⟨g, ob, og, by obtain ⟨h0, h1, h2, h3, h4, h5, h6⟩ := hs; exact ⟨h0, h1, h2, h3, h4, h5, by simpa using h6⟩, by simpa using hb2, hg2⟩
    have hK : Keep ok w (w.setCell ⟨g, i, none⟩ (.bool false)) := (Keep.refl _ _).set_ (.inl og) _
    clear hb hg hb2 hg2 hs
    cases hv : s.m[i]?.getD false
    · rw [hv] at ei
      rw [if_neg (by simp)]
      clear hv hR hK
      go_enter Tryz.func158, Tryz.ntmps158
      go_wp2
      go_ret
      exact ⟨rfl, hr', Keep.refl _ _⟩
    · rw [hv] at ei
      rw [if_pos rfl]
      clear hv hr'
      go_enter Tryz.func158, Tryz.ntmps158
      go_wp2
      go_ret
      exact ⟨rfl, hR, hK⟩

/-- The first mark from one on. -/
def IsFirst (m : List Bool) (k : Nat) : Option Nat → Prop
  | some i => k ≤ i ∧ i < m.length ∧ m[i]?.getD false = true ∧ ∀ j, k ≤ j → j < i → m[j]?.getD false = false
  | none => ∀ j, k ≤ j → m[j]?.getD false = false
def fstO : Option Nat → Int | some i => i | none => 0

set_option maxHeartbeats 1000000 in
theorem First_calls {ok : Nat → Prop} {b : Nat} {s : Cd} (k : Int) (w : World) (hr : CRep w ok b s) :
    Calls Tryz.prog 157 #[.pointer (some ⟨b, 0, none⟩), .int .i64 k] w fun e w' =>
      ∃ r, IsFirst s.m k.toNat r ∧ e = .returned (.tuple #[.int .i64 (fstO r), .bool r.isSome]) ∧ w = w' := by
  obtain ⟨g, ob, og, hs, hb, hg⟩ := hr
  have e3 := hb.cell 3
  simp at e3
  have hml : (s.m.length : Int) ≤ 1048577 := by
    obtain ⟨h0, h1, h2, h3, h4, h5, h6⟩ := hs
    have := num_b (w := s.w) (c := s.c) h2 h4
    omega
  have hcell : ∀ i, i < s.m.length → w.cell? ⟨g, i, none⟩ = some (.bool (s.m[i]?.getD false)) := fun i hi => by rw [hg.cell, bools_get hi]
  have HC := Lib.hid hcell
  obtain ⟨K, hK⟩ : ∃ K : Nat, (if k < 0 then 0 else k) = (K : Int) := ⟨k.toNat, by split <;> omega⟩
  obtain ⟨K', hK'⟩ : ∃ K', (if 0 < k then k else 0) = K' := ⟨_, rfl⟩
  have hKk : k.toNat = K := by split at hK <;> omega
  have hKK : K' = (K : Int) := by rw [← hK', ← hK]; (repeat' split) <;> omega
  subst hKK
  rw [hKk]
  clear hcell hb hg hs hKk
  go_enter Tryz.func157, Tryz.ntmps157
  go_wp2
  go_loopw [6] (fun i wr => ∃ n : Nat, K ≤ n ∧ (n ≤ s.m.length ∨ n = K) ∧ i = .int .i64 n ∧ (∀ j, K ≤ j → j < n → s.m[j]?.getD false = false) ∧ wr = w) (fun i _ => s.m.length - (intOf i).toNat)
  case atStart => exact ⟨K, Nat.le_refl _, .inr rfl, rfl, fun j h1 h2 => by omega, rfl⟩
  case round =>
    obtain ⟨n, hn, hnl, rfl, hno, rfl⟩ := hrel
    have HN := Lib.hid hno
    clear hno
    by_cases hlt : n < s.m.length
    · have ei := HC.out n hlt
      cases hv : s.m[n]?.getD false
      · rw [hv] at ei
        have HV := Lib.hid hv
        clear hv
        go_wp2
        go_roundw
        case rel => exact ⟨n + 1, by omega, .inl (by omega), by go_num, fun j h1 h2 => by
          rcases Nat.lt_or_ge j n with h | h
          · exact HN.out j h1 h
          · rw [show j = n by omega]; exact HV.out, by first | rfl | trivial⟩
        case measure => simp [intOf]; omega
      · rw [hv] at ei
        have HV := Lib.hid hv
        clear hv
        go_wp2
        go_ret2
        exact ⟨some n, ⟨hn, hlt, HV.out, HN.out⟩, rfl, rfl⟩
    · go_wp2
      go_ret2
      exact ⟨none, fun j h1 => by
        rcases Nat.lt_or_ge j s.m.length with h | h
        · exact HN.out j h1 (by omega)
        · rw [List.getElem?_eq_none h]; rfl, rfl, rfl⟩

set_option maxHeartbeats 1000000 in
theorem Count_calls {ok : Nat → Prop} {b : Nat} {s : Cd} (w : World) (hr : CRep w ok b s) :
    Calls Tryz.prog 155 #[.pointer (some ⟨b, 0, none⟩)] w fun e w' => e = .returned (.int .i64 (s.m.count true)) ∧ w = w' := by
  obtain ⟨g, ob, og, hs, hb, hg⟩ := hr
  have e3 := hb.cell 3
  simp at e3
  have hml : (s.m.length : Int) ≤ 1048577 := by
    obtain ⟨h0, h1, h2, h3, h4, h5, h6⟩ := hs
    have := num_b (w := s.w) (c := s.c) h2 h4
    omega
  have hcell : ∀ i, i < s.m.length → w.cell? ⟨g, i, none⟩ = some (.bool (s.m[i]?.getD false)) := fun i hi => by rw [hg.cell, bools_get hi]
  have HC := Lib.hid hcell
  clear hcell hb hg hs
  go_enter Tryz.func155, Tryz.ntmps155
  go_wp2
  go_loopw [3, 13] (fun c i wr => ∃ k : Nat, k ≤ s.m.length ∧ i = .int .i64 k ∧ c = .int .i64 ((s.m.take k).count true) ∧ wr = w) (fun c i _ => s.m.length - (intOf i).toNat)
  case atStart => exact ⟨0, by omega, rfl, by simp, rfl⟩
  case round =>
    obtain ⟨k, hk, rfl, rfl, rfl⟩ := hrel
    by_cases hlt : k < s.m.length
    · have ei := HC.out k hlt
      have hle : (s.m.take k).count true ≤ k := Nat.le_trans (List.count_le_length) (by rw [List.length_take]; omega)
      have hnx : (s.m.take (k + 1)).count true = (s.m.take k).count true + (if s.m[k]?.getD false = true then 1 else 0) := by
        rw [List.take_add_one, List.count_append]
        simp [List.getElem?_eq_getElem hlt]
        cases s.m[k] <;> simp
      generalize (s.m.take k).count true = c at hle hnx ⊢
      cases hv : s.m[k]?.getD false
      · rw [hv] at ei hnx
        have HX := Lib.hid hnx
        clear hv hnx
        go_wp2
        go_roundw
        case rel => exact ⟨k + 1, by omega, by go_num, by rw [HX.out]; simp, by first | rfl | trivial⟩
        case measure => simp [intOf]; omega
      · rw [hv] at ei hnx
        have HX := Lib.hid hnx
        clear hv hnx
        go_wp2
        go_roundw
        case rel => exact ⟨k + 1, by omega, by go_num, by rw [HX.out]; simp, by first | rfl | trivial⟩
        case measure => simp [intOf]; omega
    · have hkk : k = s.m.length := by omega
      rw [show s.m.take k = s.m from List.take_of_length_le (by omega)]
      clear hlt
      subst hkk
      go_wp2
      go_ret
      exact ⟨rfl, rfl⟩

def Cd.part (s : Cd) (k : Int) : Int × Int := if 0 ≤ k ∧ k < s.m.length then (s.f + k * s.c, s.f + (if s.w < (k + 1) * s.c then s.w else (k + 1) * s.c)) else (0, 0)
theorem part_b {s : Cd} (hs : s.ok) {k : Int} (h0 : 0 ≤ k) (h1 : k < s.m.length) : 0 ≤ k * s.c ∧ k * s.c ≤ s.w ∧ (k + 1) * s.c = k * s.c + s.c := by
  obtain ⟨g0, g1, g2, g3, g4, g5, g6⟩ := hs
  refine ⟨Int.mul_nonneg h0 (by omega), ?_, by rw [Int.add_mul, Int.one_mul]⟩
  have e1 := Int.mul_ediv_add_emod s.w s.c
  have r1 := Int.emod_nonneg s.w (by omega : s.c ≠ 0)
  have r3 := Int.emod_lt_of_pos s.w (by omega : 0 < s.c)
  have hk : k ≤ s.w / s.c := by unfold Cd.num at g6; split at g6 <;> omega
  have := Int.mul_le_mul_of_nonneg_left hk (by omega : 0 ≤ s.c)
  rw [Int.mul_comm k s.c]
  omega

set_option maxHeartbeats 1000000 in
theorem Part_calls {ok : Nat → Prop} {b : Nat} {s : Cd} (k : Int) (w : World) (hr : CRep w ok b s) :
    Calls Tryz.prog 159 #[.pointer (some ⟨b, 0, none⟩), .int .i64 k] w fun e w' => e = .returned (.tuple #[.int .i64 (s.part k).1, .int .i64 (s.part k).2]) ∧ ∃ n, w' = w.drewN n := by
  obtain ⟨g, ob, og, hs, hb, hg⟩ := hr
  have e0 := hb.cell 0
  have e1 := hb.cell 1
  have e2 := hb.cell 2
  have e3 := hb.cell 3
  simp at e0 e1 e2 e3
  unfold Cd.part
  rcases (by omega : k < 0 ∨ (0 ≤ k ∧ (s.m.length : Int) ≤ k) ∨ (0 ≤ k ∧ k < s.m.length)) with hx | ⟨hx, hy⟩ | ⟨hx, hy⟩
  · rw [if_neg (by omega)]
    clear hb hg
    go_enter Tryz.func159, Tryz.ntmps159
    go_wp2
    go_ret2
    exact ⟨rfl, 0, rfl⟩
  · rw [if_neg (by omega)]
    clear hb hg
    go_enter Tryz.func159, Tryz.ntmps159
    go_wp2
    go_ret2
    exact ⟨rfl, 0, rfl⟩
  · rw [if_pos ⟨hx, hy⟩]
    obtain ⟨p0, p1, p2⟩ := part_b hs hx hy
    obtain ⟨g0, g1, g2, g3, g4, g5, g6⟩ := hs
    rw [p2]
    generalize s.f = f at *
    generalize s.w = W at *
    generalize s.c = c at *
    have hml : (s.m.length : Int) ≤ 1048577 := by
      have := num_b (w := W) (c := c) g2 g4
      omega
    obtain ⟨X, hX⟩ : ∃ X, k * c = X := ⟨_, rfl⟩
    obtain ⟨Y, hY⟩ : ∃ Y, (k + 1) * c = Y := ⟨_, rfl⟩
    rw [hX] at p0 p1 p2 ⊢
    rw [hY] at p2
    rw [← p2]
    have u1 := IntWalk.i64_in X (by omega)
    have u2 := IntWalk.i64_in Y (by omega)
    have u3 := IntWalk.i64_in (k + 1) (by omega)
    have u4 := IntWalk.i64_in (f + X) (by omega)
    obtain ⟨M, hM⟩ : ∃ M, (if W < Y then W else Y) = M := ⟨_, rfl⟩
    have hMb : 0 ≤ M ∧ M ≤ W := by rw [← hM]; split <;> omega
    obtain ⟨m0, m1⟩ := hMb
    have u5 := IntWalk.i64_in (f + M) (by omega)
    rw [hM]
    clear g6 hb hg p2
    go_enter Tryz.func159, Tryz.ntmps159
    go_wp2
    go_quiet (fail)
    go_wp2
    go_ret2
    exact ⟨rfl, _, rfl⟩
end Go.Proofs.YtihmkkjmnbehbaaGreat.Cd
/- Marks as parts of memory; the document's pages. No condition. -/
set_option linter.unusedVariables false
set_option linter.unusedSimpArgs false
namespace Go.Proofs.YtihmkkjmnbehbaaGreat.Cd
open Go.RowKit Go.Proofs.YtihmkkjmnbehbaaGreat.W

def Crd (b : Nat) (s : Cd) : Pr := ⟨fun w o => CRep w o b s, fun h k hn => h.keep k hn, fun h hs => h.mono hs, fun h => h.bound⟩
section
variable {W w : World} {oo : Nat → Prop} {l : List Pr} {b : Nat} {s : Cd}
theorem Crd_ok (h : SepO W oo w l) (k : Nat) (hk : l[k]? = some (Crd b s)) : s.ok := by
  obtain ⟨o, ⟨g, _, _, h, _⟩, _⟩ := h.get k hk
  exact h
theorem New_sep (f n c : Int) (h : SepO W oo w l) : Calls Tryz.prog 105 #[.int .i64 f, .int .i64 n, .int .i64 c] w fun e w' => ∃ b, e = .returned (.pointer (some ⟨b, 0, none⟩)) ∧
    SepO W oo w' (l ++ [Crd b ⟨clampN f, clampN n, clamp1 c, List.replicate (Cd.num (clampN n) (clamp1 c)).toNat false⟩]) :=
  (New_calls f n c w).mono fun e w' ⟨b, he, hr, hk⟩ => ⟨b, he, h.add hk hr⟩
theorem Mark_sep (a : Int) (h : SepO W oo w l) (k : Nat) (hk : l[k]? = some (Crd b s)) (ha9 : a ≤ 9223372036854775807) : Calls Tryz.prog 142 #[.pointer (some ⟨b, 0, none⟩), .int .i64 a] w fun e w' =>
    e = .returned (.bool (decide (0 ≤ s.of_ a))) ∧ SepO W oo w' (l.set k (Crd b { s with m := if 0 ≤ s.of_ a then s.m.set (s.of_ a).toNat true else s.m })) := by
  obtain ⟨o, hp, _, hup⟩ := h.open0 k hk
  exact (Mark_calls a w hp ha9).mono fun e w' ⟨he, hr, hkk⟩ => ⟨he, hup w' (Crd _ _) hr hkk⟩
theorem Clear_sep (a : Int) (h : SepO W oo w l) (k : Nat) (hk : l[k]? = some (Crd b s)) : Calls Tryz.prog 158 #[.pointer (some ⟨b, 0, none⟩), .int .i64 a] w fun e w' =>
    e = .returned (.bool (s.isMark a)) ∧ SepO W oo w' (l.set k (Crd b { s with m := if s.isMark a then s.m.set a.toNat false else s.m })) := by
  obtain ⟨o, hp, _, hup⟩ := h.open0 k hk
  exact (Clear_calls a w hp).mono fun e w' ⟨he, hr, hkk⟩ => ⟨he, hup w' (Crd _ _) hr hkk⟩
theorem First_sep (a : Int) (h : SepO W oo w l) (k : Nat) (hk : l[k]? = some (Crd b s)) : Calls Tryz.prog 157 #[.pointer (some ⟨b, 0, none⟩), .int .i64 a] w fun e w' =>
    ∃ r, IsFirst s.m a.toNat r ∧ e = .returned (.tuple #[.int .i64 (fstO r), .bool r.isSome]) ∧ w = w' := by
  obtain ⟨o, hp, _, hup⟩ := h.open0 k hk
  exact First_calls a w hp
theorem Count_sep (h : SepO W oo w l) (k : Nat) (hk : l[k]? = some (Crd b s)) : Calls Tryz.prog 155 #[.pointer (some ⟨b, 0, none⟩)] w fun e w' => e = .returned (.int .i64 (s.m.count true)) ∧ w = w' := by
  obtain ⟨o, hp, _, hup⟩ := h.open0 k hk
  exact Count_calls w hp
theorem Part_sep (a : Int) (h : SepO W oo w l) (k : Nat) (hk : l[k]? = some (Crd b s)) : Calls Tryz.prog 159 #[.pointer (some ⟨b, 0, none⟩), .int .i64 a] w fun e w' => e = .returned (.tuple #[.int .i64 (s.part a).1, .int .i64 (s.part a).2]) ∧ SepO W oo w' l := by
  obtain ⟨o, hp, _, hup⟩ := h.open0 k hk
  exact (Part_calls a w hp).mono fun e w' ⟨he, n, hw⟩ => ⟨he, hw ▸ h.drewN n⟩
end
theorem IsFirst.uniq {m : List Bool} {k : Nat} {r r' : Option Nat} (h : IsFirst m k r) (h' : IsFirst m k r') : r = r' := by
  cases r with
  | none => cases r' with
    | none => rfl
    | some j => have := h j h'.1; rw [h'.2.2.1] at this; cases this
  | some i => cases r' with
    | none => have := h' i h.1; rw [h.2.2.1] at this; cases this
    | some j =>
      obtain ⟨a1, a2, a3, a4⟩ := h
      obtain ⟨b1, b2, b3, b4⟩ := h'
      rcases Nat.lt_trichotomy i j with hl | rfl | hl
      · have := b4 i a1 hl; rw [a3] at this; cases this
      · rfl
      · have := a4 j b1 hl; rw [b3] at this; cases this
/-- The first mark of all. -/
def fstI (m : List Bool) : Option Nat := if m.findIdx id < m.length then some (m.findIdx id) else none
theorem fstI_spec (m : List Bool) : IsFirst m 0 (fstI m) := by
  unfold fstI
  by_cases h : m.findIdx id < m.length
  · rw [if_pos h]
    refine ⟨Nat.zero_le _, h, ?_, fun j _ hj => ?_⟩
    · have := List.findIdx_getElem (xs := m) (p := id) (w := h)
      rw [List.getElem?_eq_getElem h]; simpa using this
    · have := List.not_of_lt_findIdx (xs := m) (p := id) hj
      rw [List.getElem?_eq_getElem (by omega)]; simpa using this
  · rw [if_neg h]
    intro j _
    rcases Nat.lt_or_ge j m.length with hl | hl
    · have := List.not_of_lt_findIdx (xs := m) (p := id) (i := j) (by omega)
      rw [List.getElem?_eq_getElem hl]; simpa using this
    · rw [List.getElem?_eq_none hl]; rfl
theorem of_in {f n c a : Int} {m : List Bool} (h0 : f ≤ a) (h1 : a < f + n) : Cd.of_ ⟨f, n, c, m⟩ a = (a - f) / c := if_pos (by simp; omega)
theorem of_out {f n c a : Int} {m : List Bool} (h : ¬ (f ≤ a ∧ a < f + n)) : Cd.of_ ⟨f, n, c, m⟩ a = -1 := if_neg (by simp; omega)
end Go.Proofs.YtihmkkjmnbehbaaGreat.Cd
