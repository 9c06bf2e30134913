/- Texts of the whole heap, joined: Obj. No condition beside those that each lemma names. -/
import Derived.Test.YtihmkkjmnbehbaaGreatMg08
import Derived.Test.YtihmkkjmnbehbaaGreatMg09
/- Contracts of package obj over a predicate on memory. Condition: the words of the arena are of 64 bits. -/
set_option linter.unusedVariables false
set_option linter.unusedSimpArgs false
namespace Go.Proofs.YtihmkkjmnbehbaaGreat.Ob
open Go.RowKit Go.Proofs.YtihmkkjmnbehbaaGreat.W Go.Proofs.YtihmkkjmnbehbaaGreat.Ar Go.Proofs.YtihmkkjmnbehbaaGreat.Hea

def w64 (x : Int) : Prop := 0 ≤ x ∧ x < 18446744073709551616
/-- An arena that holds these words. -/
def OA (w : World) (ok : Nat → Prop) (b : Nat) (ws : List Int) : Prop := (∃ n, ARep w ok b ws n) ∧ ∀ i : Nat, w64 (ws[i]?.getD 0)
/-- Is there such a word? -/
def inn (ws : List Int) (a : Int) : Bool := within ws.length a 1
def ldW (ws : List Int) (a : Int) : Int := if inn ws a then ws[a.toNat]?.getD 0 else 0
def erW (ws : List Int) (a : Int) : Int := if inn ws a then 0 else 2
def stW (ws : List Int) (a x : Int) : List Int := if inn ws a then ws.set a.toNat x else ws
theorem stW_len (ws : List Int) (a x : Int) : (stW ws a x).length = ws.length := by unfold stW; split <;> simp
theorem ldW_b {ws : List Int} (h : ∀ i : Nat, w64 (ws[i]?.getD 0)) (a : Int) : w64 (ldW ws a) := by
  unfold ldW; split
  · exact h _
  · unfold w64; omega
theorem set_b {ws : List Int} (h : ∀ i : Nat, w64 (ws[i]?.getD 0)) {x : Int} (hx : w64 x) (k : Nat) : ∀ i : Nat, w64 ((ws.set k x)[i]?.getD 0) := fun i => by
  by_cases e : k = i
  · subst e
    by_cases hl : k < ws.length
    · rw [List.getElem?_set_self hl]; exact hx
    · rw [List.getElem?_eq_none (by simpa using hl)]; unfold w64; simp
  · rw [List.getElem?_set_ne e]; exact h i
theorem stW_b {ws : List Int} (h : ∀ i : Nat, w64 (ws[i]?.getD 0)) {x : Int} (hx : w64 x) (a : Int) : ∀ i : Nat, w64 ((stW ws a x)[i]?.getD 0) := by
  unfold stW; split
  · exact set_b h hx _
  · exact h
section
variable {w w' : World} {ok ok' : Nat → Prop} {b : Nat} {ws : List Int}
theorem OA.keep (h : OA w ok b ws) (hk : Keep ok' w w') (hn : ∀ i, ok i → ok' i → False) : OA w' ok b ws := ⟨h.1.elim fun n hn' => ⟨n, hn'.keep hk hn⟩, h.2⟩
theorem OA.stay (h : OA w ok b ws) (hk : Keep (fun _ => False) w w') : OA w' ok b ws := h.keep hk (fun _ _ h => h)
theorem OA.alloc (h : OA w ok b ws) (o : Obj) : OA (w.alloc o) ok b ws := h.stay ((Keep.refl _ w).alloc o)
theorem OA.drewN (h : OA w ok b ws) (n : Nat) : OA (w.drewN n) ok b ws := h.stay ((Keep.refl _ w).drewN n)
theorem OA.mono (h : OA w ok b ws) (hs : ∀ i, ok i → ok' i) : OA w ok' b ws := ⟨h.1.elim fun n hn' => ⟨n, hn'.mono hs⟩, h.2⟩
theorem OA.len (h : OA w ok b ws) : ws.length ≤ 1048576 := h.1.elim fun n hn => hn.len
theorem Keep.ok0 (h : Keep (fun _ => False) w w') : Keep ok w w' := h.mono (fun _ h => h.elim)
theorem Load_o (a : Int) (h : OA w ok b ws) : Calls Tryz.prog 95 #[.pointer (some ⟨b, 0, none⟩), .int .i64 a] w fun e w' => e = .returned (.tuple #[.int .u64 (ldW ws a), .int .i64 (erW ws a)]) ∧ OA w' ok b ws ∧ Keep ok w w' := by
  obtain ⟨⟨n, hn⟩, hb⟩ := h
  exact (Load_calls a w hn).mono fun e w' ⟨he, hr, hk⟩ => ⟨he, ⟨⟨_, hr⟩, hb⟩, hk⟩
theorem Store_o (a x : Int) (h : OA w ok b ws) (hx : w64 x) : Calls Tryz.prog 119 #[.pointer (some ⟨b, 0, none⟩), .int .i64 a, .int .u64 x] w fun e w' => e = .returned (.int .i64 (erW ws a)) ∧ OA w' ok b (stW ws a x) ∧ Keep ok w w' := by
  have hs := stW_b h.2 hx a
  obtain ⟨⟨n, hn⟩, hb⟩ := h
  exact (Store_calls a x w hn).mono fun e w' ⟨he, hr, hk⟩ => ⟨he, ⟨⟨_, hr⟩, hs⟩, hk⟩
theorem zro_b {ws : List Int} (h : ∀ i : Nat, w64 (ws[i]?.getD 0)) {i k : Nat} (hk : i + k ≤ ws.length) : ∀ x : Nat, w64 ((zro ws i k)[x]?.getD 0) := fun x => by
  rw [zro_get hk]; split
  · unfold w64; simp
  · exact h x
theorem cpy_b {ws : List Int} (h : ∀ i : Nat, w64 (ws[i]?.getD 0)) {i j k : Nat} (hi : i + k ≤ ws.length) (hj : j + k ≤ ws.length) : ∀ x : Nat, w64 ((cpy ws i j k)[x]?.getD 0) := fun x => by
  rw [cpy_get hi hj]; split
  · exact h _
  · exact h x
theorem Zero_o (a k : Int) (h : OA w ok b ws) : Calls Tryz.prog 136 #[.pointer (some ⟨b, 0, none⟩), .int .i64 a, .int .i64 k] w fun e w' =>
    e = .returned (.int .i64 (if within ws.length a k then 0 else 2)) ∧ OA w' ok b (if within ws.length a k then zro ws a.toNat k.toNat else ws) ∧ Keep ok w w' := by
  have hs : ∀ i : Nat, w64 ((if within ws.length a k then zro ws a.toNat k.toNat else ws)[i]?.getD 0) := by
    split
    · rename_i hw; have hw := Go.Proofs.YtihmkkjmnbehbaaGreat.Ar.within_iff.1 hw; exact zro_b h.2 (by omega)
    · exact h.2
  obtain ⟨⟨n, hn⟩, hb⟩ := h
  exact (Zero_calls a k w hn).mono fun e w' ⟨he, hr, hk⟩ => ⟨he, ⟨⟨_, hr⟩, hs⟩, hk⟩
theorem Copy_o (a c k : Int) (h : OA w ok b ws) : Calls Tryz.prog 140 #[.pointer (some ⟨b, 0, none⟩), .int .i64 a, .int .i64 c, .int .i64 k] w fun e w' =>
    e = .returned (.int .i64 (if within ws.length a k && within ws.length c k then 0 else 2)) ∧ OA w' ok b (if within ws.length a k && within ws.length c k then cpy ws a.toNat c.toNat k.toNat else ws) ∧ Keep ok w w' := by
  have hs : ∀ i : Nat, w64 ((if within ws.length a k && within ws.length c k then cpy ws a.toNat c.toNat k.toNat else ws)[i]?.getD 0) := by
    split
    · rename_i hw; rw [Bool.and_eq_true] at hw; have hw1 := Go.Proofs.YtihmkkjmnbehbaaGreat.Ar.within_iff.1 hw.1; have hw2 := Go.Proofs.YtihmkkjmnbehbaaGreat.Ar.within_iff.1 hw.2; exact cpy_b h.2 (by omega) (by omega)
    · exact h.2
  obtain ⟨⟨n, hn⟩, hb⟩ := h
  exact (Copy_calls a c k w hn).mono fun e w' ⟨he, hr, hk⟩ => ⟨he, ⟨⟨_, hr⟩, hs⟩, hk⟩
theorem word_w64 {h : Hd} (hg : h.good) : w64 h.word := by have := word_bound hg; unfold w64; omega

/-- How many words an object has. -/
def wordsOf (h : Hd) : Int := (if 0 < (if 64 < h.size then 64 else h.size) then (if 64 < h.size then 64 else h.size) else 0) + 2
theorem wordsOf_good {h : Hd} (hg : h.good) : wordsOf h = h.size + 2 := by unfold Hd.good at hg; unfold wordsOf; (repeat' split) <;> omega
theorem Words_calls (h : Hd) (w : World) : Calls Tryz.prog 111 #[.agg h.cells] w fun e w' => e = .returned (.int .i64 (wordsOf h)) ∧ Keep (fun _ => False) w w' := by
  obtain ⟨a0, a1, a2, a3, g, n, o⟩ := h
  obtain ⟨m, hm⟩ : ∃ m, (if 64 < a0 then 64 else a0) = m := ⟨_, rfl⟩
  obtain ⟨c, hc⟩ : ∃ c, (if 0 < m then m else 0) = c := ⟨_, rfl⟩
  have c0 : 0 ≤ c := by rw [← hc]; split <;> omega
  have c1 : c ≤ 64 := by rw [← hc, ← hm]; (repeat' split) <;> omega
  have e : wordsOf ⟨a0, a1, a2, a3, g, n, o⟩ = c + 2 := by unfold wordsOf; simp only []; rw [hm, hc]
  rw [e]
  clear e
  simp only [Hd.cells]
  have hk := (Keep.refl (fun _ => False) w).alloc (.cells #[.int .i64 a0, .int .i64 a1, .int .i64 a2, .int .i64 a3, .bool g, .bool n, .bool o] 99)
  go_enter Tryz.func111, Tryz.ntmps111
  go_wp2
  go_ret
  exact ⟨rfl, hk⟩

theorem SetHead_calls (a : Int) (h : Hd) (hr : OA w ok b ws) : Calls Tryz.prog 137 #[.pointer (some ⟨b, 0, none⟩), .int .i64 a, .agg h.cells] w fun e w' =>
    e = .returned (.int .i64 (if h.good then erW ws a else 1)) ∧ OA w' ok b (if h.good then stW ws a h.word else ws) ∧ Keep ok w w' := by
  have hr1 := hr.alloc (.cells h.cells 99)
  have k1 := (Keep.refl ok w).alloc (.cells h.cells 99)
  have hP := Lib.hid (fun W => Pack_calls h W)
  by_cases hg : h.good
  · have hd : decide h.good = true := by simpa using hg
    rw [if_pos hg, if_pos hg]
    have hw := word_w64 hg
    have HW := Lib.hid hw
    have hQ : ∀ W : World, Calls Tryz.prog 166 #[.agg h.cells] W fun e w' => e = .returned (.tuple #[.int .u64 h.word, .bool true]) ∧ Keep (fun _ => False) W w' := fun W => by
      have := hP.out W
      rw [if_pos hg, hd] at this
      exact this
    generalize h.word = x at hQ HW ⊢
    obtain ⟨a0, a1, a2, a3, g, n, o⟩ := h
    have HQ := Lib.hid hQ
    clear hQ hP hd hw hg
    simp only [Hd.cells] at hr1 k1 HQ ⊢
    go_enter Tryz.func137, Tryz.ntmps137
    go_wp2_with fail
    refine (HQ.out _).mono ?_
    rintro e w1 ⟨rfl, k2⟩
    have hr2 := hr1.stay k2
    have k3 := k1.trans k2 (fun i h => .inl h.elim)
    clear hr hr1 k1 k2 HQ
    go_wp2_with fail
    refine (Store_o a x hr2 HW.out).mono ?_
    rintro e w2 ⟨rfl, hr3, k4⟩
    go_wp2_with fail
    go_ret
    exact ⟨rfl, hr3, k3.trans k4 (fun i h => .inl h)⟩
  · have hd : decide h.good = false := by simpa using hg
    rw [if_neg hg, if_neg hg]
    have hQ : ∀ W : World, Calls Tryz.prog 166 #[.agg h.cells] W fun e w' => e = .returned (.tuple #[.int .u64 0, .bool false]) ∧ Keep (fun _ => False) W w' := fun W => by
      have := hP.out W
      rw [if_neg hg, hd] at this
      exact this
    obtain ⟨a0, a1, a2, a3, g, n, o⟩ := h
    have HQ := Lib.hid hQ
    clear hQ hP hd hg
    simp only [Hd.cells] at hr1 k1 HQ ⊢
    go_enter Tryz.func137, Tryz.ntmps137
    go_wp2_with fail
    refine (HQ.out _).mono ?_
    rintro e w1 ⟨rfl, k2⟩
    have hr2 := hr1.stay k2
    have k3 := k1.trans k2 (fun i h => .inl h.elim)
    clear hr hr1 k1 k2 HQ
    go_wp2_with fail
    go_ret
    exact ⟨rfl, hr2, k3⟩

/-- A way's place. -/
def okAt (a : Int) : Bool := decide (0 ≤ a) && decide (a ≤ 1048576)
theorem Way_calls (a : Int) (hr : OA w ok b ws) : Calls Tryz.prog 99 #[.pointer (some ⟨b, 0, none⟩), .int .i64 a] w fun e w' =>
    e = .returned (.tuple #[.int .i64 (if okAt a then wrap64 (ldW ws (a + 1)) else 0), .int .i64 (if okAt a then erW ws (a + 1) else 2)]) ∧ OA w' ok b ws ∧ Keep ok w w' := by
  rcases (by omega : a < 0 ∨ (0 ≤ a ∧ 1048576 < a) ∨ (0 ≤ a ∧ a ≤ 1048576)) with h0 | ⟨h0, h1⟩ | ⟨h0, h1⟩
  · have e : okAt a = false := by simp [okAt]; omega
    rw [e, if_neg (by simp), if_neg (by simp)]
    clear e
    go_enter Tryz.func99, Tryz.ntmps99
    go_wp2_with fail
    go_ret2
    exact ⟨rfl, hr, Keep.refl _ _⟩
  · have e : okAt a = false := by simp [okAt]; omega
    rw [e, if_neg (by simp), if_neg (by simp)]
    clear e
    go_enter Tryz.func99, Tryz.ntmps99
    go_wp2_with fail
    go_ret2
    exact ⟨rfl, hr, Keep.refl _ _⟩
  · have e : okAt a = true := by simp [okAt]; omega
    rw [e, if_pos rfl, if_pos rfl]
    clear e
    have hb := ldW_b hr.2 (a + 1)
    unfold w64 at hb
    obtain ⟨hb0, hb1⟩ := hb
    obtain ⟨x, hx⟩ : ∃ x, ldW ws (a + 1) = x := ⟨_, rfl⟩
    obtain ⟨y, hy⟩ : ∃ y, erW ws (a + 1) = y := ⟨_, rfl⟩
    rw [hx] at hb0 hb1
    rw [hx, hy]
    have HX := Lib.hid hx
    have HY := Lib.hid hy
    clear hx hy
    go_enter Tryz.func99, Tryz.ntmps99
    go_wp2_with fail
    refine (Load_o (a + 1) hr).mono ?_
    rintro e w1 ⟨rfl, hr1, k1⟩
    rw [HX.out, HY.out]
    go_wp2_with fail
    go_ret2
    exact ⟨rfl, hr1, k1⟩
theorem SetWay_calls (a c : Int) (hr : OA w ok b ws) : Calls Tryz.prog 138 #[.pointer (some ⟨b, 0, none⟩), .int .i64 a, .int .i64 c] w fun e w' =>
    e = .returned (.int .i64 (if okAt a then erW ws (a + 1) else 2)) ∧ OA w' ok b (if okAt a then stW ws (a + 1) (IntKind.u64.wrap c) else ws) ∧ Keep ok w w' := by
  rcases (by omega : a < 0 ∨ (0 ≤ a ∧ 1048576 < a) ∨ (0 ≤ a ∧ a ≤ 1048576)) with h0 | ⟨h0, h1⟩ | ⟨h0, h1⟩
  · have e : okAt a = false := by simp [okAt]; omega
    rw [e, if_neg (by simp), if_neg (by simp)]
    clear e
    go_enter Tryz.func138, Tryz.ntmps138
    go_wp2_with fail
    go_ret
    exact ⟨rfl, hr, Keep.refl _ _⟩
  · have e : okAt a = false := by simp [okAt]; omega
    rw [e, if_neg (by simp), if_neg (by simp)]
    clear e
    go_enter Tryz.func138, Tryz.ntmps138
    go_wp2_with fail
    go_ret
    exact ⟨rfl, hr, Keep.refl _ _⟩
  · have e : okAt a = true := by simp [okAt]; omega
    rw [e, if_pos rfl, if_pos rfl]
    clear e
    have hb : w64 (IntKind.u64.wrap c) := by rw [IntKind.wrap_u64]; unfold w64; omega
    have HB := Lib.hid hb
    clear hb
    go_enter Tryz.func138, Tryz.ntmps138
    go_wp2_with fail
    refine (Store_o (a + 1) (IntKind.u64.wrap c) hr HB.out).mono ?_
    rintro e w1 ⟨rfl, hr1, k1⟩
    go_wp2_with fail
    go_ret
    exact ⟨rfl, hr1, k1⟩

/-- Where a field is; below 0: there is none such. -/
def placeOf (a k : Int) : Int := if (okAt a && (decide (0 ≤ k) && decide (k < 64))) = true then a + 2 + k else -1
theorem place_calls (a k : Int) (w : World) : Calls Tryz.prog 96 #[.int .i64 a, .int .i64 k] w fun e w' => e = .returned (.int .i64 (placeOf a k)) ∧ w = w' := by
  rcases (by omega : a < 0 ∨ (0 ≤ a ∧ 1048576 < a) ∨ (0 ≤ a ∧ a ≤ 1048576 ∧ k < 0) ∨ (0 ≤ a ∧ a ≤ 1048576 ∧ 0 ≤ k ∧ 64 ≤ k) ∨ (0 ≤ a ∧ a ≤ 1048576 ∧ 0 ≤ k ∧ k < 64)) with h0 | ⟨h0, h1⟩ | ⟨h0, h1, h2⟩ | ⟨h0, h1, h2, h3⟩ | ⟨h0, h1, h2, h3⟩
  · rw [show placeOf a k = -1 from if_neg (by simp [okAt]; omega)]
    go_enter Tryz.func96, Tryz.ntmps96
    go_wp2_with fail
    go_ret
    exact ⟨rfl, rfl⟩
  · rw [show placeOf a k = -1 from if_neg (by simp [okAt]; omega)]
    go_enter Tryz.func96, Tryz.ntmps96
    go_wp2_with fail
    go_ret
    exact ⟨rfl, rfl⟩
  · rw [show placeOf a k = -1 from if_neg (by simp [okAt]; omega)]
    go_enter Tryz.func96, Tryz.ntmps96
    go_wp2_with fail
    go_ret
    exact ⟨rfl, rfl⟩
  · rw [show placeOf a k = -1 from if_neg (by simp [okAt]; omega)]
    go_enter Tryz.func96, Tryz.ntmps96
    go_wp2_with fail
    go_ret
    exact ⟨rfl, rfl⟩
  · rw [show placeOf a k = a + 2 + k from if_pos (by simp [okAt]; omega)]
    go_enter Tryz.func96, Tryz.ntmps96
    go_wp2_with fail
    go_ret
    exact ⟨rfl, rfl⟩
theorem Field_calls (a k : Int) (hr : OA w ok b ws) : Calls Tryz.prog 55 #[.pointer (some ⟨b, 0, none⟩), .int .i64 a, .int .i64 k] w fun e w' =>
    e = .returned (.tuple #[.int .u64 (ldW ws (placeOf a k)), .int .i64 (erW ws (placeOf a k))]) ∧ OA w' ok b ws ∧ Keep ok w w' := by
  obtain ⟨p, hp⟩ : ∃ p, placeOf a k = p := ⟨_, rfl⟩
  rw [hp]
  have HP := Lib.hid hp
  clear hp
  go_enter Tryz.func55, Tryz.ntmps55
  go_wp2_with fail
  refine (place_calls a k _).mono ?_
  rintro e w1 ⟨rfl, rfl⟩
  rw [HP.out]
  go_wp2_with fail
  refine (Load_o p hr).mono ?_
  rintro e w1 ⟨rfl, hr1, k1⟩
  go_wp2_with fail
  go_ret2
  exact ⟨rfl, hr1, k1⟩
theorem SetField_calls (a k x : Int) (hr : OA w ok b ws) (hx : w64 x) : Calls Tryz.prog 76 #[.pointer (some ⟨b, 0, none⟩), .int .i64 a, .int .i64 k, .int .u64 x] w fun e w' =>
    e = .returned (.int .i64 (erW ws (placeOf a k))) ∧ OA w' ok b (stW ws (placeOf a k) x) ∧ Keep ok w w' := by
  obtain ⟨p, hp⟩ : ∃ p, placeOf a k = p := ⟨_, rfl⟩
  rw [hp]
  have HP := Lib.hid hp
  have HX := Lib.hid hx
  clear hp hx
  go_enter Tryz.func76, Tryz.ntmps76
  go_wp2_with fail
  refine (place_calls a k _).mono ?_
  rintro e w1 ⟨rfl, rfl⟩
  rw [HP.out]
  go_wp2_with fail
  refine (Store_o p x hr HX.out).mono ?_
  rintro e w1 ⟨rfl, hr1, k1⟩
  go_wp2_with fail
  go_ret
  exact ⟨rfl, hr1, k1⟩

theorem Head_res (tmps : Array Value) (w : World) (b : Nat) (h : Hd) (t : Int) (hB : Blk w b 99 h.cells) (h2 : tmps[4]?.getD undef = .pointer (some ⟨b, 0, none⟩)) (h3 : tmps[5]?.getD undef = .int .i64 t) :
    (results Tryz.f132 tmps).run Tryz.prog w = .ok (.tuple #[.agg h.cells, .int .i64 t]) w := by
  obtain ⟨a0, a1, a2, a3, g, n, o⟩ := h
  have e0 := hB.cell 0
  have e1 := hB.cell 1
  have e2 := hB.cell 2
  have e3 := hB.cell 3
  have e4 := hB.cell 4
  have e5 := hB.cell 5
  have e6 := hB.cell 6
  simp [Hd.cells] at e0 e1 e2 e3 e4 e5 e6
  simp [results, Tryz.results132, go_sem, h2, h3, e0, e1, e2, e3, e4, e5, e6, Hd.cells]
def hdAt (ws : List Int) (a : Int) : Hd := hdOf (ldW ws a)
def hdErr (ws : List Int) (a : Int) : Int := if inn ws a then (if isHead (ldW ws a) then 0 else 1) else 2
theorem hdOf_zero : hdOf 0 = Hd.zero := if_neg (by decide)
theorem OA.bound (h : OA w ok b ws) : OA w (fun i => ok i ∧ i < w.heap.size) b ws := ⟨h.1.elim fun n hn' => ⟨n, hn'.bound⟩, h.2⟩
/-- A head that is written over a block of its own. -/
theorem put_keep {W w : World} {ok : Nat → Prop} {c : Nat} (hk : Keep ok W w) (hc : ok c ∨ W.heap.size ≤ c) (k : Hd) : Keep ok W (((((((w.setCell ⟨c, 0, none⟩ (.int .i64 k.size)).setCell ⟨c, 1, none⟩ (.int .i64 k.ptrs)).setCell ⟨c, 2, none⟩ (.int .i64 k.age)).setCell ⟨c, 3, none⟩ (.int .i64 k.par)).setCell ⟨c, 4, none⟩ (.bool k.grey)).setCell ⟨c, 5, none⟩ (.bool k.noted)).setCell ⟨c, 6, none⟩ (.bool k.old)) :=
  ((((((hk.set_ (p := ⟨c, 0, none⟩) hc _).set_ (p := ⟨c, 1, none⟩) hc _).set_ (p := ⟨c, 2, none⟩) hc _).set_ (p := ⟨c, 3, none⟩) hc _).set_ (p := ⟨c, 4, none⟩) hc _).set_ (p := ⟨c, 5, none⟩) hc _).set_ (p := ⟨c, 6, none⟩) hc _
theorem put_own (w : World) (c : Nat) (k : Hd) : Keep (fun i => i = c) w (((((((w.setCell ⟨c, 0, none⟩ (.int .i64 k.size)).setCell ⟨c, 1, none⟩ (.int .i64 k.ptrs)).setCell ⟨c, 2, none⟩ (.int .i64 k.age)).setCell ⟨c, 3, none⟩ (.int .i64 k.par)).setCell ⟨c, 4, none⟩ (.bool k.grey)).setCell ⟨c, 5, none⟩ (.bool k.noted)).setCell ⟨c, 6, none⟩ (.bool k.old)) := put_keep (ok := fun i => i = c) (c := c) (Keep.refl _ w) (.inl rfl) k
set_option maxHeartbeats 4000000 in
theorem Head_calls (a : Int) (hr : OA w ok b ws) : Calls Tryz.prog 132 #[.pointer (some ⟨b, 0, none⟩), .int .i64 a] w fun e w' =>
    e = .returned (.tuple #[.agg (hdAt ws a).cells, .int .i64 (hdErr ws a)]) ∧ OA w' ok b ws ∧ Keep ok w w' := by
  have hx := ldW_b hr.2 a
  obtain ⟨x, hxe⟩ : ∃ x, ldW ws a = x := ⟨_, rfl⟩
  have k0 := (Keep.refl ok w).alloc (.cells #[.int .i64 0, .int .i64 0, .int .i64 0, .int .i64 0, .bool false, .bool false, .bool false] 99)
  have hr0 := hr.bound.alloc (.cells #[.int .i64 0, .int .i64 0, .int .i64 0, .int .i64 0, .bool false, .bool false, .bool false] 99)
  have f0 := Blk.new w 99 #[.int .i64 0, .int .i64 0, .int .i64 0, .int .i64 0, .bool false, .bool false, .bool false]
  rw [hxe] at hx
  unfold hdAt hdErr
  rw [hxe]
  unfold w64 at hx
  have HX := Lib.hid hxe
  have HB := Lib.hid hx
  clear hxe hx
  by_cases hi : inn ws a = true
  · have he : erW ws a = 0 := by unfold erW; rw [if_pos hi]
    rw [if_pos hi]
    have HE := Lib.hid he
    clear he hi
    by_cases hh : isHead x
    · rw [if_pos hh]
      have hd : decide (isHead x) = true := by simpa using hh
      have hU : ∀ W : World, Calls Tryz.prog 164 #[.int .u64 x] W fun e w' => e = .returned (.tuple #[.agg (hdOf x).cells, .bool true]) ∧ Keep (fun _ => False) W w' := fun W => by
        have := Unpack_calls x W HB.out.1 HB.out.2
        rw [hd] at this
        exact this
      obtain ⟨K, hK⟩ : ∃ K, hdOf x = K := ⟨_, rfl⟩
      rw [hK] at hU ⊢
      obtain ⟨a0, a1, a2, a3, g, n, o⟩ := K
      have HU := Lib.hid hU
      clear hU hd hh hK
      simp only [Hd.cells] at HU
      go_enter Tryz.func132, Tryz.ntmps132
      go_wp2_with fail
      refine (Load_o a hr0).mono ?_
      rintro e w1 ⟨rfl, hr1, k1⟩
      have f1 := k1.blk f0 (fun h => by have := h.2; omega)
      have K1 := k0.trans k1 (fun i h => .inl h.1)
      rw [HX.out, HE.out]
      clear hr0 k0 f0 k1
      go_wp2_with fail
      refine (HU.out _).mono ?_
      rintro e w2 ⟨rfl, k2⟩
      have g1 : Blk w2 w.heap.size 99 Hd.zero.cells := k2.blk f1 (fun h => h)
      have hr2 : OA w2 (fun i => ok i ∧ i < w.heap.size) b ws := hr1.stay k2
      have K2 : Keep ok w w2 := K1.trans k2 (fun i h => .inl h.elim)
      have kf : ∀ i, w2.frozen? ⟨w.heap.size, i, none⟩ = false := fun i => g1.frozen i
      have hlt := g1.lt
      have e0 := g1.cell 0
      have e1 := g1.cell 1
      have e2 := g1.cell 2
      have e3 := g1.cell 3
      have e4 := g1.cell 4
      have e5 := g1.cell 5
      have e6 := g1.cell 6
      simp [Hd.cells, Hd.zero] at e0 e1 e2 e3 e4 e5 e6
      have hp := put_hd g1 ⟨a0, a1, a2, a3, g, n, o⟩
      have ho := (hr2.keep (put_own w2 w.heap.size ⟨a0, a1, a2, a3, g, n, o⟩) (fun i h1 h2 => by have := h1.2; omega)).mono (ok' := ok) (fun i h => h.1)
      have hq := put_keep K2 (.inr (Nat.le_refl _)) ⟨a0, a1, a2, a3, g, n, o⟩
      clear f1 hr1 k2 K1 g1 hr2 K2
      go_wp2_with fail
      refine bodyPost_ret (Head_res _ _ w.heap.size ⟨a0, a1, a2, a3, g, n, o⟩ 0 (hp.alloc _) rfl rfl) rfl ⟨?_, ho.alloc _, hq.alloc _⟩
      rfl
    · rw [if_neg hh]
      have hd : decide (isHead x) = false := by simpa using hh
      have hz : hdOf x = Hd.zero := if_neg hh
      have hU : ∀ W : World, Calls Tryz.prog 164 #[.int .u64 x] W fun e w' => e = .returned (.tuple #[.agg #[.int .i64 0, .int .i64 0, .int .i64 0, .int .i64 0, .bool false, .bool false, .bool false], .bool false]) ∧ Keep (fun _ => False) W w' := fun W => by
        have := Unpack_calls x W HB.out.1 HB.out.2
        rw [hd, hz] at this
        exact this
      rw [hz]
      have HU := Lib.hid hU
      clear hU hd hh hz
      go_enter Tryz.func132, Tryz.ntmps132
      go_wp2_with fail
      refine (Load_o a hr0).mono ?_
      rintro e w1 ⟨rfl, hr1, k1⟩
      have f1 := k1.blk f0 (fun h => by have := h.2; omega)
      have K1 := k0.trans k1 (fun i h => .inl h.1)
      rw [HX.out, HE.out]
      clear hr0 k0 f0 k1
      go_wp2_with fail
      refine (HU.out _).mono ?_
      rintro e w2 ⟨rfl, k2⟩
      have g1 : Blk w2 w.heap.size 99 Hd.zero.cells := k2.blk f1 (fun h => h)
      have hr2 : OA w2 (fun i => ok i ∧ i < w.heap.size) b ws := hr1.stay k2
      have K2 : Keep ok w w2 := K1.trans k2 (fun i h => .inl h.elim)
      have kf : ∀ i, w2.frozen? ⟨w.heap.size, i, none⟩ = false := fun i => g1.frozen i
      have hlt := g1.lt
      have e0 := g1.cell 0
      have e1 := g1.cell 1
      have e2 := g1.cell 2
      have e3 := g1.cell 3
      have e4 := g1.cell 4
      have e5 := g1.cell 5
      have e6 := g1.cell 6
      simp [Hd.cells, Hd.zero] at e0 e1 e2 e3 e4 e5 e6
      have hp := put_hd g1 Hd.zero
      have ho := (hr2.keep (put_own w2 w.heap.size Hd.zero) (fun i h1 h2 => by have := h1.2; omega)).mono (ok' := ok) (fun i h => h.1)
      have hq := put_keep K2 (.inr (Nat.le_refl _)) Hd.zero
      clear f1 hr1 k2 K1 g1 hr2 K2
      go_wp2_with fail
      refine bodyPost_ret (Head_res _ _ w.heap.size Hd.zero 1 (hp.alloc _) rfl rfl) rfl ⟨?_, ho.alloc _, hq.alloc _⟩
      rfl
  · have he : erW ws a = 2 := by unfold erW; rw [if_neg hi]
    have hx0 : x = 0 := by rw [← HX.out]; unfold ldW; rw [if_neg hi]
    rw [if_neg hi, hx0, hdOf_zero]
    have HE := Lib.hid he
    clear he hi
    subst hx0
    go_enter Tryz.func132, Tryz.ntmps132
    go_wp2_with fail
    refine (Load_o a hr0).mono ?_
    rintro e w1 ⟨rfl, hr1, k1⟩
    have f1 := k1.blk f0 (fun h => by have := h.2; omega)
    have K1 := k0.trans k1 (fun i h => .inl h.1)
    rw [HX.out, HE.out]
    clear hr0 k0 f0 k1
    have g1 : Blk w1 w.heap.size 99 Hd.zero.cells := f1
    have hr2 : OA w1 (fun i => ok i ∧ i < w.heap.size) b ws := hr1
    have K2 : Keep ok w w1 := K1
    have kf : ∀ i, w1.frozen? ⟨w.heap.size, i, none⟩ = false := fun i => g1.frozen i
    have hlt := g1.lt
    have e0 := g1.cell 0
    have e1 := g1.cell 1
    have e2 := g1.cell 2
    have e3 := g1.cell 3
    have e4 := g1.cell 4
    have e5 := g1.cell 5
    have e6 := g1.cell 6
    simp [Hd.cells, Hd.zero] at e0 e1 e2 e3 e4 e5 e6
    have hp := put_hd g1 Hd.zero
    have ho := (hr2.keep (put_own w1 w.heap.size Hd.zero) (fun i h1 h2 => by have := h1.2; omega)).mono (ok' := ok) (fun i h => h.1)
    have hq := put_keep K2 (.inr (Nat.le_refl _)) Hd.zero
    clear f1 hr1 K1 g1 hr2 K2
    go_wp2_with fail
    refine bodyPost_ret (Head_res _ _ w.heap.size Hd.zero 2 (hp) rfl rfl) rfl ⟨?_, ho, hq⟩
    rfl

/-- What Make, Move come to. -/
def mkErr (ws : List Int) (a : Int) (h : Hd) : Int := if h.good then (if within ws.length a (h.size + 2) then 0 else 2) else 1
def mkW (ws : List Int) (a : Int) (h : Hd) : List Int :=
  if h.good then (if within ws.length a (h.size + 2) then ((zro ws a.toNat (h.size + 2).toNat).set a.toNat h.word).set (a + 1).toNat a else ws) else ws
def mvErr (ws : List Int) (a c : Int) (h : Hd) : Int := if h.good then (if within ws.length a (h.size + 2) && within ws.length c (h.size + 2) then 0 else 2) else 1
def mvW (ws : List Int) (a c : Int) (h : Hd) : List Int :=
  if h.good then (if within ws.length a (h.size + 2) && within ws.length c (h.size + 2) then (((cpy ws a.toNat c.toNat (h.size + 2).toNat).set c.toNat h.word).set (c + 1).toNat c).set (a + 1).toNat c else ws) else ws
theorem wrap_at {a : Int} (h0 : 0 ≤ a) (h1 : a ≤ 1048576) : IntKind.u64.wrap a = a := by rw [IntKind.wrap_u64]; omega
theorem inn_of {ws : List Int} {a : Int} (h0 : 0 ≤ a) (h1 : a + 1 ≤ ws.length) : inn ws a = true := Go.Proofs.YtihmkkjmnbehbaaGreat.Ar.within_yes (by omega)
/-- Setting a way that may be set. -/
theorem SetWay_yes (a c : Int) (hr : OA w ok b ws) (h0 : 0 ≤ a) (h1 : a + 2 ≤ ws.length) (c0 : 0 ≤ c) (c1 : c ≤ 1048576) : Calls Tryz.prog 138 #[.pointer (some ⟨b, 0, none⟩), .int .i64 a, .int .i64 c] w fun e w' =>
    e = .returned (.int .i64 0) ∧ OA w' ok b (ws.set (a + 1).toNat c) ∧ Keep ok w w' := by
  have hl := hr.len
  have := SetWay_calls a c hr
  have e1 : okAt a = true := by simp [okAt]; omega
  have e2 : inn ws (a + 1) = true := inn_of (by omega) (by omega)
  unfold erW stW at this
  rw [e1, e2, wrap_at c0 c1] at this
  exact this
theorem SetHead_yes (a : Int) (h : Hd) (hr : OA w ok b ws) (hg : h.good) (h0 : 0 ≤ a) (h1 : a + 1 ≤ ws.length) : Calls Tryz.prog 137 #[.pointer (some ⟨b, 0, none⟩), .int .i64 a, .agg h.cells] w fun e w' =>
    e = .returned (.int .i64 0) ∧ OA w' ok b (ws.set a.toNat h.word) ∧ Keep ok w w' := by
  have := SetHead_calls a h hr
  have e2 : inn ws a = true := inn_of (by omega) (by omega)
  unfold erW stW at this
  rw [if_pos hg, if_pos hg, e2] at this
  exact this
set_option maxHeartbeats 2000000 in
theorem Make_calls (a : Int) (h : Hd) (hr : OA w ok b ws) : Calls Tryz.prog 114 #[.pointer (some ⟨b, 0, none⟩), .int .i64 a, .agg h.cells] w fun e w' =>
    e = .returned (.int .i64 (mkErr ws a h)) ∧ OA w' ok b (mkW ws a h) ∧ Keep ok w w' := by
  have hl := hr.len
  have hr1 := hr.bound.alloc (.cells h.cells 99)
  have k1 := (Keep.refl ok w).alloc (.cells h.cells 99)
  have f1 := Blk.new w 99 h.cells
  have hG := fun W => Good_calls h W
  by_cases hg : h.good
  · rw [show decide h.good = true from by simpa using hg] at hG
    have hW := fun W => Words_calls h W
    rw [wordsOf_good hg] at hW
    by_cases hw : within ws.length a (h.size + 2) = true
    · rw [show mkErr ws a h = 0 from by unfold mkErr; rw [if_pos hg, if_pos hw], show mkW ws a h = ((zro ws a.toNat (h.size + 2).toNat).set a.toNat h.word).set (a + 1).toNat a from by unfold mkW; rw [if_pos hg, if_pos hw]]
      have hw' := Go.Proofs.YtihmkkjmnbehbaaGreat.Ar.within_iff.1 hw
      have hgs : 0 ≤ h.size ∧ h.size ≤ 64 := ⟨hg.1, hg.2.1⟩
      have hzl : (zro ws a.toNat (h.size + 2).toNat).length = ws.length := zro_len (by omega)
      have HG := Lib.hid hG
      have HW := Lib.hid hW
      have HWW := Lib.hid hw
      have HGG := Lib.hid hg
      have HZ := Lib.hid hzl
      clear hG hW hw hg hzl
      have hSH := Lib.hid (fun (w : World) (ok : Nat → Prop) (ws : List Int) (hr : OA w ok b ws) (h1 : a + 1 ≤ ws.length) => SetHead_yes a h hr HGG.out (by omega) h1)
      generalize hwd : h.word = wd at hSH ⊢
      clear hwd HGG
      obtain ⟨a0, a1, a2, a3, g, n, o⟩ := h
      simp only [] at hw' hgs HW HZ HWW ⊢
      simp only [Hd.cells] at hr1 k1 f1 HG HW hSH ⊢
      go_enter Tryz.func114, Tryz.ntmps114
      go_wp2_with fail
      refine (HG.out _).mono ?_
      rintro e w1 ⟨rfl, k2⟩
      have f2 := k2.blk f1 (fun h => h)
      have hr2 := hr1.stay k2
      have K2 := k1.trans k2 (fun i h => .inl h.elim)
      have c0 := f2.cell 0
      have c1 := f2.cell 1
      have c2 := f2.cell 2
      have c3 := f2.cell 3
      have c4 := f2.cell 4
      have c5 := f2.cell 5
      have c6 := f2.cell 6
      simp at c0 c1 c2 c3 c4 c5 c6
      clear hr1 k1 f1 k2
      go_wp2_with fail
      refine (HW.out _).mono ?_
      rintro e w2 ⟨rfl, k3⟩
      have f3 := k3.blk f2 (fun h => h)
      have hr3 := hr2.stay k3
      have K3 := K2.trans k3 (fun i h => .inl h.elim)
      clear hr2 K2 f2 k3 c0 c1 c2 c3 c4 c5 c6
      go_wp2_with fail
      refine (Zero_o a (a0 + 2) hr3).mono ?_
      rintro e w3 ⟨rfl, hr4, k4⟩
      rw [HWW.out, if_pos rfl] at hr4
      rw [HWW.out, if_pos rfl]
      have f4 := k4.blk f3 (fun h => by have := h.2; omega)
      have K4 := K3.trans k4 (fun i h => .inl h.1)
      have c0 := f4.cell 0
      have c1 := f4.cell 1
      have c2 := f4.cell 2
      have c3 := f4.cell 3
      have c4 := f4.cell 4
      have c5 := f4.cell 5
      have c6 := f4.cell 6
      simp at c0 c1 c2 c3 c4 c5 c6
      clear hr3 K3 f3 k4
      go_wp2_with fail
      refine (hSH.out _ _ _ hr4 (by rw [HZ.out]; omega)).mono ?_
      rintro e w4 ⟨rfl, hr5, k5⟩
      have K5 := K4.trans k5 (fun i h => .inl h.1)
      clear hr4 K4 f4 k5 c0 c1 c2 c3 c4 c5 c6
      go_wp2_with fail
      refine (SetWay_yes a a hr5 (by omega) (by rw [List.length_set, HZ.out]; omega) (by omega) (by omega)).mono ?_
      rintro e w5 ⟨rfl, hr6, k6⟩
      go_wp2_with fail
      go_ret
      exact ⟨rfl, hr6.mono (fun i h => h.1), K5.trans k6 (fun i h => .inl h.1)⟩
    · rw [show mkErr ws a h = 2 from by unfold mkErr; rw [if_pos hg, if_neg hw], show mkW ws a h = ws from by unfold mkW; rw [if_pos hg, if_neg hw]]
      have HG := Lib.hid hG
      have HW := Lib.hid hW
      have HWW := Lib.hid hw
      clear hG hW hw hg
      obtain ⟨a0, a1, a2, a3, g, n, o⟩ := h
      simp only [] at HW HWW ⊢
      simp only [Hd.cells] at hr1 k1 f1 HG HW ⊢
      go_enter Tryz.func114, Tryz.ntmps114
      go_wp2_with fail
      refine (HG.out _).mono ?_
      rintro e w1 ⟨rfl, k2⟩
      have f2 := k2.blk f1 (fun h => h)
      have hr2 := hr1.stay k2
      have K2 := k1.trans k2 (fun i h => .inl h.elim)
      have c0 := f2.cell 0
      have c1 := f2.cell 1
      have c2 := f2.cell 2
      have c3 := f2.cell 3
      have c4 := f2.cell 4
      have c5 := f2.cell 5
      have c6 := f2.cell 6
      simp at c0 c1 c2 c3 c4 c5 c6
      clear hr1 k1 f1 k2
      go_wp2_with fail
      refine (HW.out _).mono ?_
      rintro e w2 ⟨rfl, k3⟩
      have f3 := k3.blk f2 (fun h => h)
      have hr3 := hr2.stay k3
      have K3 := K2.trans k3 (fun i h => .inl h.elim)
      clear hr2 K2 f2 k3 c0 c1 c2 c3 c4 c5 c6
      go_wp2_with fail
      refine (Zero_o a (a0 + 2) hr3).mono ?_
      rintro e w3 ⟨rfl, hr4, k4⟩
      rw [if_neg HWW.out] at hr4
      rw [if_neg HWW.out]
      have K4 := K3.trans k4 (fun i h => .inl h.1)
      clear hr3 K3 f3 k4
      go_wp2_with fail
      go_ret
      exact ⟨rfl, hr4.mono (fun i h => h.1), K4⟩
  · rw [show mkErr ws a h = 1 from by unfold mkErr; rw [if_neg hg], show mkW ws a h = ws from by unfold mkW; rw [if_neg hg]]
    rw [show decide h.good = false from by simpa using hg] at hG
    have HG := Lib.hid hG
    clear hG hg
    obtain ⟨a0, a1, a2, a3, g, n, o⟩ := h
    simp only [Hd.cells] at hr1 k1 f1 HG ⊢
    go_enter Tryz.func114, Tryz.ntmps114
    go_wp2_with fail
    refine (HG.out _).mono ?_
    rintro e w1 ⟨rfl, k2⟩
    have f2 := k2.blk f1 (fun h => h)
    have hr2 := hr1.stay k2
    have K2 := k1.trans k2 (fun i h => .inl h.elim)
    clear hr1 k1 f1 k2
    go_wp2_with fail
    go_ret
    exact ⟨rfl, hr2.mono (fun i h => h.1), K2⟩
set_option maxHeartbeats 2000000 in
theorem Move_calls (a c : Int) (h : Hd) (hr : OA w ok b ws) : Calls Tryz.prog 116 #[.pointer (some ⟨b, 0, none⟩), .int .i64 a, .int .i64 c, .agg h.cells] w fun e w' =>
    e = .returned (.int .i64 (mvErr ws a c h)) ∧ OA w' ok b (mvW ws a c h) ∧ Keep ok w w' := by
  have hl := hr.len
  have hr1 := hr.bound.alloc (.cells h.cells 99)
  have k1 := (Keep.refl ok w).alloc (.cells h.cells 99)
  have f1 := Blk.new w 99 h.cells
  have hG := fun W => Good_calls h W
  by_cases hg : h.good
  · rw [show decide h.good = true from by simpa using hg] at hG
    have hW := fun W => Words_calls h W
    rw [wordsOf_good hg] at hW
    by_cases hw : (within ws.length a (h.size + 2) && within ws.length c (h.size + 2)) = true
    · rw [show mvErr ws a c h = 0 from by unfold mvErr; rw [if_pos hg, if_pos hw], show mvW ws a c h = (((cpy ws a.toNat c.toNat (h.size + 2).toNat).set c.toNat h.word).set (c + 1).toNat c).set (a + 1).toNat c from by unfold mvW; rw [if_pos hg, if_pos hw]]
      have hwx := Bool.and_eq_true_iff.1 hw
      have hw' := Go.Proofs.YtihmkkjmnbehbaaGreat.Ar.within_iff.1 hwx.1
      have hw'' := Go.Proofs.YtihmkkjmnbehbaaGreat.Ar.within_iff.1 hwx.2
      clear hwx
      have hgs : 0 ≤ h.size ∧ h.size ≤ 64 := ⟨hg.1, hg.2.1⟩
      have hzl : (cpy ws a.toNat c.toNat (h.size + 2).toNat).length = ws.length := cpy_len (by omega) (by omega)
      have HG := Lib.hid hG
      have HW := Lib.hid hW
      have HWW := Lib.hid hw
      have HGG := Lib.hid hg
      have HZ := Lib.hid hzl
      clear hG hW hw hg hzl
      have hSH := Lib.hid (fun (w : World) (ok : Nat → Prop) (ws : List Int) (hr : OA w ok b ws) (h1 : c + 1 ≤ ws.length) => SetHead_yes c h hr HGG.out (by omega) h1)
      generalize hwd : h.word = wd at hSH ⊢
      clear hwd HGG
      obtain ⟨a0, a1, a2, a3, g, n, o⟩ := h
      simp only [] at hw' hgs HW HZ HWW ⊢
      simp only [] at hw''
      simp only [Hd.cells] at hr1 k1 f1 HG HW hSH ⊢
      go_enter Tryz.func116, Tryz.ntmps116
      go_wp2_with fail
      refine (HG.out _).mono ?_
      rintro e w1 ⟨rfl, k2⟩
      have f2 := k2.blk f1 (fun h => h)
      have hr2 := hr1.stay k2
      have K2 := k1.trans k2 (fun i h => .inl h.elim)
      have c0 := f2.cell 0
      have c1 := f2.cell 1
      have c2 := f2.cell 2
      have c3 := f2.cell 3
      have c4 := f2.cell 4
      have c5 := f2.cell 5
      have c6 := f2.cell 6
      simp at c0 c1 c2 c3 c4 c5 c6
      clear hr1 k1 f1 k2
      go_wp2_with fail
      refine (HW.out _).mono ?_
      rintro e w2 ⟨rfl, k3⟩
      have f3 := k3.blk f2 (fun h => h)
      have hr3 := hr2.stay k3
      have K3 := K2.trans k3 (fun i h => .inl h.elim)
      clear hr2 K2 f2 k3 c0 c1 c2 c3 c4 c5 c6
      go_wp2_with fail
      refine (Copy_o a c (a0 + 2) hr3).mono ?_
      rintro e w3 ⟨rfl, hr4, k4⟩
      rw [HWW.out, if_pos rfl] at hr4
      rw [HWW.out, if_pos rfl]
      have f4 := k4.blk f3 (fun h => by have := h.2; omega)
      have K4 := K3.trans k4 (fun i h => .inl h.1)
      have c0 := f4.cell 0
      have c1 := f4.cell 1
      have c2 := f4.cell 2
      have c3 := f4.cell 3
      have c4 := f4.cell 4
      have c5 := f4.cell 5
      have c6 := f4.cell 6
      simp at c0 c1 c2 c3 c4 c5 c6
      clear hr3 K3 f3 k4
      go_wp2_with fail
      refine (hSH.out _ _ _ hr4 (by rw [HZ.out]; omega)).mono ?_
      rintro e w4 ⟨rfl, hr5, k5⟩
      have K5 := K4.trans k5 (fun i h => .inl h.1)
      clear hr4 K4 f4 k5 c0 c1 c2 c3 c4 c5 c6
      go_wp2_with fail
      refine (SetWay_yes c c hr5 (by omega) (by rw [List.length_set, HZ.out]; omega) (by omega) (by omega)).mono ?_
      rintro e w5 ⟨rfl, hr6, k6⟩
      go_wp2_with fail
      have K6 := K5.trans k6 (fun i h => .inl h.1)
      clear hr5 K5 k6
      refine (SetWay_yes a c hr6 (by omega) (by rw [List.length_set, List.length_set, HZ.out]; omega) (by omega) (by omega)).mono ?_
      rintro e w6 ⟨rfl, hr7, k7⟩
      go_wp2_with fail
      go_ret
      exact ⟨rfl, hr7.mono (fun i h => h.1), K6.trans k7 (fun i h => .inl h.1)⟩
    · rw [show mvErr ws a c h = 2 from by unfold mvErr; rw [if_pos hg, if_neg hw], show mvW ws a c h = ws from by unfold mvW; rw [if_pos hg, if_neg hw]]
      have HG := Lib.hid hG
      have HW := Lib.hid hW
      have HWW := Lib.hid hw
      clear hG hW hw hg
      obtain ⟨a0, a1, a2, a3, g, n, o⟩ := h
      simp only [] at HW HWW ⊢
      simp only [Hd.cells] at hr1 k1 f1 HG HW ⊢
      go_enter Tryz.func116, Tryz.ntmps116
      go_wp2_with fail
      refine (HG.out _).mono ?_
      rintro e w1 ⟨rfl, k2⟩
      have f2 := k2.blk f1 (fun h => h)
      have hr2 := hr1.stay k2
      have K2 := k1.trans k2 (fun i h => .inl h.elim)
      have c0 := f2.cell 0
      have c1 := f2.cell 1
      have c2 := f2.cell 2
      have c3 := f2.cell 3
      have c4 := f2.cell 4
      have c5 := f2.cell 5
      have c6 := f2.cell 6
      simp at c0 c1 c2 c3 c4 c5 c6
      clear hr1 k1 f1 k2
      go_wp2_with fail
      refine (HW.out _).mono ?_
      rintro e w2 ⟨rfl, k3⟩
      have f3 := k3.blk f2 (fun h => h)
      have hr3 := hr2.stay k3
      have K3 := K2.trans k3 (fun i h => .inl h.elim)
      clear hr2 K2 f2 k3 c0 c1 c2 c3 c4 c5 c6
      go_wp2_with fail
      refine (Copy_o a c (a0 + 2) hr3).mono ?_
      rintro e w3 ⟨rfl, hr4, k4⟩
      rw [if_neg HWW.out] at hr4
      rw [if_neg HWW.out]
      have K4 := K3.trans k4 (fun i h => .inl h.1)
      clear hr3 K3 f3 k4
      go_wp2_with fail
      go_ret
      exact ⟨rfl, hr4.mono (fun i h => h.1), K4⟩
  · rw [show mvErr ws a c h = 1 from by unfold mvErr; rw [if_neg hg], show mvW ws a c h = ws from by unfold mvW; rw [if_neg hg]]
    rw [show decide h.good = false from by simpa using hg] at hG
    have HG := Lib.hid hG
    clear hG hg
    obtain ⟨a0, a1, a2, a3, g, n, o⟩ := h
    simp only [Hd.cells] at hr1 k1 f1 HG ⊢
    go_enter Tryz.func116, Tryz.ntmps116
    go_wp2_with fail
    refine (HG.out _).mono ?_
    rintro e w1 ⟨rfl, k2⟩
    have f2 := k2.blk f1 (fun h => h)
    have hr2 := hr1.stay k2
    have K2 := k1.trans k2 (fun i h => .inl h.elim)
    clear hr1 k1 f1 k2
    go_wp2_with fail
    go_ret
    exact ⟨rfl, hr2.mono (fun i h => h.1), K2⟩
end
end Go.Proofs.YtihmkkjmnbehbaaGreat.Ob
