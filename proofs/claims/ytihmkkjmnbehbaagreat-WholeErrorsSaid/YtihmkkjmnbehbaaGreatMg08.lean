/- Texts of the whole heap, joined: Arena. No condition beside those that each lemma names. -/
import Derived.Test.YtihmkkjmnbehbaaGreatProg
import Derived.Test.YtihmkkjmnbehbaaGreatMg00
import Derived.Laws.MakeOwn
import Derived.Laws.Entries
import Derived.IntWalk
import Derived.Laws.CopyRow
import Derived.Laws.IdiomCopy
import Derived.Lib.SliceRun
import Derived.Outline
/- Contracts of package arena over a predicate on memory. No condition. -/
set_option linter.unusedVariables false
set_option linter.unusedSimpArgs false
namespace Go.Proofs.YtihmkkjmnbehbaaGreat.Ar
open Go.RowKit Go.Proofs.YtihmkkjmnbehbaaGreat.W

theorem info_u64 : (Tryz.prog.info? 31).map (fun i => (i.zero, i.size, i.bytes)) = some (some (.int .u64 0), 1, 8) := by kernel_rfl
def u64s (l : List Int) : Array Value := (l.map (Value.int .u64)).toArray
theorem u64s_get {l : List Int} {i : Nat} (h : i < l.length) : (u64s l)[i]? = some (.int .u64 (l[i]?.getD 0)) := by simp [u64s, h]
theorem u64s_set (l : List Int) (i : Nat) (x : Int) : (u64s l).setIfInBounds i (.int .u64 x) = u64s (l.set i x) := by simp [u64s, List.map_set]
theorem u64s_size (l : List Int) : (u64s l).size = l.length := by simp [u64s]

theorem run_make_rowN {P : Program} (t e : TypeId) (i : TypeInfo) (z : Value) (ht : P.underlying t = some (.slice e)) (hi : P.info? e = some i) (hz : i.zero = some z)
    (kl kc : IntKind) (n c : Nat) (hnc : n ≤ c) (hbytes : i.bytes * c ≤ 281474976710656) (h63 : c ≤ 9223372036854775807) (w : World) :
    (Instr.makeSlice t (.int kl (n : Int)) (.int kc (c : Int))).run P w = .ok (.slice (some ⟨w.heap.size, 0, none⟩) n c) (w.alloc (.cells (madeCells z.cells (c * i.size)) e)) := by
  have hb : (i.bytes : Int) * (c : Int) ≤ 281474976710656 := by
    have h : ((i.bytes * c : Nat) : Int) ≤ 281474976710656 := by omega
    rwa [Int.natCast_mul] at h
  have hr := run_make (P := P) w t e i z ht hi hz kl kc n c (by omega) (by omega) hb (by omega)
  simp only [Int.toNat_natCast] at hr
  exact hr

/-- Words in a block of their own, and how often they were asked for. -/
def ARep (w : World) (ok : Nat → Prop) (b : Nat) (ws : List Int) (n : Int) : Prop :=
  ∃ g, ok b ∧ ok g ∧ ws.length ≤ 1048576 ∧ Blk w b 142 #[.slice (some ⟨g, 0, none⟩) ws.length ws.length, .int .i64 n] ∧ Blk w g 31 (u64s ws)
section
variable {w w' : World} {ok ok' : Nat → Prop} {b : Nat} {ws : List Int} {n : Int}
theorem ARep.keep (h : ARep w ok b ws n) (hk : Keep ok' w w') (hn : ∀ i, ok i → ok' i → False) : ARep w' ok b ws n := by
  obtain ⟨g, ob, og, hs, hb, hg⟩ := h
  exact ⟨g, ob, og, hs, hk.blk hb (fun x => hn _ ob x), hk.blk hg (fun x => hn _ og x)⟩
theorem ARep.mono (h : ARep w ok b ws n) (hs : ∀ i, ok i → ok' i) : ARep w ok' b ws n := by
  obtain ⟨g, ob, og, h1, hb, hg⟩ := h
  exact ⟨g, hs _ ob, hs _ og, h1, hb, hg⟩
theorem ARep.bound (h : ARep w ok b ws n) : ARep w (fun i => ok i ∧ i < w.heap.size) b ws n := by
  obtain ⟨g, ob, og, h1, hb, hg⟩ := h
  exact ⟨g, ⟨ob, hb.lt⟩, ⟨og, hg.lt⟩, h1, hb, hg⟩
theorem ARep.drewN (h : ARep w ok b ws n) (m : Nat) : ARep (w.drewN m) ok b ws n := h
theorem ARep.len (h : ARep w ok b ws n) : ws.length ≤ 1048576 := by obtain ⟨g, ob, og, h1, hb, hg⟩ := h; exact h1
end

def clampN (n : Int) : Int := if n < 0 then 0 else if 1048576 < n then 1048576 else n
theorem clampN_id {n : Int} (h0 : 0 ≤ n) (h1 : n ≤ 1048576) : clampN n = n := by unfold clampN; rw [if_neg (by omega), if_neg (by omega)]
theorem New_calls (n : Int) (w : World) :
    Calls Tryz.prog 63 #[.int .i64 n] w fun e w' => ∃ b, e = .returned (.pointer (some ⟨b, 0, none⟩)) ∧ ARep w' (fun i => w.heap.size ≤ i) b (List.replicate (clampN n).toNat 0) 0 ∧ Keep (fun _ => False) w w' := by
  obtain ⟨m, hm⟩ : ∃ m, (if 1048576 < n then 1048576 else n) = m := ⟨_, rfl⟩
  obtain ⟨c, hc⟩ : ∃ c, (if 0 < m then m else 0) = c := ⟨_, rfl⟩
  have c0 : 0 ≤ c := by rw [← hc]; split <;> omega
  have c1 : c ≤ 1048576 := by rw [← hc, ← hm]; (repeat' split) <;> omega
  have e : clampN n = c := by unfold clampN; rw [← hc, ← hm]; (repeat' split) <;> omega
  rw [e]
  clear e
  obtain ⟨D, rfl⟩ : ∃ D : Nat, c = (D : Int) := ⟨c.toNat, by omega⟩
  obtain ⟨i, hi, hz, hs, hby⟩ := info_parts info_u64
  rw [Int.toNat_natCast]
  have hmk : ∀ W : World, (Instr.makeSlice 73 (.int .i64 (D : Int)) (.int .i64 (D : Int))).run Tryz.prog W = .ok (.slice (some ⟨W.heap.size, 0, none⟩) D D) (W.alloc (.cells (u64s (List.replicate D 0)) 31)) := fun W => by
    have h := run_make_rowN 73 31 i (.int .u64 0) Tryz.underlying73 hi hz .i64 .i64 D D (Nat.le_refl _) (by rw [hby]; omega) (by omega) W
    rw [h, hs]
    have : madeCells (Value.int .u64 0).cells (D * 1) = u64s (List.replicate D 0) := by
      apply Array.ext
      · simp [madeCells, u64s]
      · intro k h1 h2; simp [madeCells, u64s, Value.cells, Nat.mod_one]
    rw [this]
  have hfin : ARep ((w.alloc (.cells (u64s (List.replicate D 0)) 31)).alloc (.cells #[.slice (some ⟨w.heap.size, 0, none⟩) D D, .int .i64 0] 142)) (fun i => w.heap.size ≤ i) (w.heap.size + 1) (List.replicate D 0) 0 := by
    have h1 := Blk.new w 31 (u64s (List.replicate D 0))
    have h2 := Blk.new (w.alloc (.cells (u64s (List.replicate D 0)) 31)) 142 #[.slice (some ⟨w.heap.size, 0, none⟩) D D, .int .i64 0]
    have h3 : (w.alloc (.cells (u64s (List.replicate D 0)) 31)).heap.size = w.heap.size + 1 := by show (w.heap.push _).size = _; rw [Array.size_push]
    rw [h3] at h2
    exact ⟨w.heap.size, by simp, Nat.le_refl _, by simp; omega, by simpa using h2, h1.alloc _⟩
  clear hi hz hs hby
  go_enter Tryz.func63, Tryz.ntmps63
  go_wp2
  go_ret
  exact ⟨_, rfl, hfin, ((Keep.refl _ _).alloc _).alloc _⟩

theorem Len_calls {ok : Nat → Prop} {b : Nat} {ws : List Int} {n : Int} (w : World) (hr : ARep w ok b ws n) :
    Calls Tryz.prog 165 #[.pointer (some ⟨b, 0, none⟩)] w fun e w' => e = .returned (.int .i64 ws.length) ∧ w = w' := by
  obtain ⟨g, ob, og, hs, hb, hg⟩ := hr
  have e0 := hb.cell 0
  simp at e0
  go_enter Tryz.func165, Tryz.ntmps165
  go_wp2
  go_ret
  exact ⟨rfl, rfl⟩
def within (size a n : Int) : Bool := decide (0 ≤ a) && (decide (0 ≤ n) && (decide (a ≤ size) && decide (n ≤ size - a)))
theorem within_yes {size a n : Int} (h : 0 ≤ a ∧ 0 ≤ n ∧ a ≤ size ∧ n ≤ size - a) : within size a n = true := by simp [within]; omega
theorem within_not {size a n : Int} (h : ¬ (0 ≤ a ∧ 0 ≤ n ∧ a ≤ size ∧ n ≤ size - a)) : within size a n = false := by simp [within]; omega
theorem within_iff {size a n : Int} : within size a n = true ↔ (0 ≤ a ∧ 0 ≤ n ∧ a ≤ size ∧ n ≤ size - a) := by simp [within]
theorem within_iff' {size a n : Int} : within size a n = false ↔ ¬ (0 ≤ a ∧ 0 ≤ n ∧ a ≤ size ∧ n ≤ size - a) := by rw [← within_iff]; simp

theorem has_calls {ok : Nat → Prop} {b : Nat} {ws : List Int} {n : Int} (a k : Int) (w : World) (hr : ARep w ok b ws n) :
    Calls Tryz.prog 133 #[.pointer (some ⟨b, 0, none⟩), .int .i64 a, .int .i64 k] w fun e w' => e = .returned (.bool (within ws.length a k)) ∧ w = w' := by
  have hs := hr.len
  rcases (by omega : a < 0 ∨ (0 ≤ a ∧ k < 0) ∨ (0 ≤ a ∧ 0 ≤ k ∧ (ws.length : Int) < a) ∨ (0 ≤ a ∧ 0 ≤ k ∧ a ≤ ws.length ∧ (ws.length : Int) - a < k) ∨ (0 ≤ a ∧ 0 ≤ k ∧ a ≤ ws.length ∧ k ≤ (ws.length : Int) - a)) with hx | ⟨hx, hy⟩ | ⟨hx, hy, hz⟩ | ⟨hx, hy, hz, hu⟩ | ⟨hx, hy, hz, hu⟩
  · rw [within_not (by omega)]
    go_enter Tryz.func133, Tryz.ntmps133
    go_wp2_with fail
    go_ret
    first | exact ⟨rfl, rfl⟩ | exact ⟨by simp; omega, rfl⟩
  · rw [within_not (by omega)]
    go_enter Tryz.func133, Tryz.ntmps133
    go_wp2_with fail
    go_ret
    first | exact ⟨rfl, rfl⟩ | exact ⟨by simp; omega, rfl⟩
  · rw [within_not (by omega)]
    go_enter Tryz.func133, Tryz.ntmps133
    go_wp2_with fail
    refine (Len_calls w hr).mono ?_
    rintro e w1 ⟨rfl, rfl⟩
    go_wp2_with fail
    go_ret
    first | exact ⟨rfl, rfl⟩ | exact ⟨by simp; omega, rfl⟩
  · rw [within_not (by omega)]
    go_enter Tryz.func133, Tryz.ntmps133
    go_wp2_with fail
    refine (Len_calls w hr).mono ?_
    rintro e w1 ⟨rfl, rfl⟩
    go_wp2_with fail
    refine (Len_calls w hr).mono ?_
    rintro e w1 ⟨rfl, rfl⟩
    go_wp2_with fail
    go_ret
    first | exact ⟨rfl, rfl⟩ | exact ⟨by simp; omega, rfl⟩
  · rw [within_yes (by omega)]
    go_enter Tryz.func133, Tryz.ntmps133
    go_wp2_with fail
    refine (Len_calls w hr).mono ?_
    rintro e w1 ⟨rfl, rfl⟩
    go_wp2_with fail
    refine (Len_calls w hr).mono ?_
    rintro e w1 ⟨rfl, rfl⟩
    go_wp2_with fail
    go_ret
    first | exact ⟨rfl, rfl⟩ | exact ⟨by simp; omega, rfl⟩

theorem Load_calls {ok : Nat → Prop} {b : Nat} {ws : List Int} {n : Int} (a : Int) (w : World) (hr : ARep w ok b ws n) :
    Calls Tryz.prog 95 #[.pointer (some ⟨b, 0, none⟩), .int .i64 a] w fun e w' =>
      e = .returned (.tuple #[.int .u64 (if within ws.length a 1 then ws[a.toNat]?.getD 0 else 0), .int .i64 (if within ws.length a 1 then 0 else 2)]) ∧ ARep w' ok b ws (if within ws.length a 1 then wrap64 (n + 1) else n) ∧ Keep ok w w' := by
  have hr' := hr
  obtain ⟨g, ob, og, hs, hb, hg⟩ := hr
  have hgb : g ≠ b := fun h => by subst h; exact absurd rfl (hg.ne_ hb (by decide))
  by_cases hx : 0 ≤ a ∧ (1 : Int) ≤ ws.length - a
  · have hw : within ws.length a 1 = true := within_yes (by omega)
    obtain ⟨i, rfl⟩ : ∃ i : Nat, a = (i : Int) := ⟨a.toNat, by omega⟩
    have hil : i < ws.length := by omega
    rw [hw, if_pos rfl, if_pos rfl, if_pos rfl, Int.toNat_natCast]
    have e0 := hb.cell 0
    have e1 := hb.cell 1
    simp at e0 e1
    have ei : w.cell? ⟨g, i, none⟩ = some (.int .u64 (ws[i]?.getD 0)) := by rw [hg.cell, u64s_get hil]
    have z1 := hb.frozen 1
    have hR : ARep (w.setCell ⟨b, 1, none⟩ (.int .i64 (wrap64 (n + 1)))) ok b ws (wrap64 (n + 1)) := ⟨g, ob, og, hs, by simpa using hb.set_ 1 (.int .i64 (wrap64 (n + 1))), hg.far hgb _⟩
    have hK : Keep ok w (w.setCell ⟨b, 1, none⟩ (.int .i64 (wrap64 (n + 1)))) := (Keep.refl _ _).set_ (.inl ob) _
    have HW := Lib.hid hw
    clear hb hg hw
    generalize ws[i]?.getD 0 = x at ei ⊢
    go_enter Tryz.func95, Tryz.ntmps95
    go_wp2_with fail
    refine (has_calls (i : Int) 1 w hr').mono ?_
    rintro e w1 ⟨rfl, rfl⟩
    rw [HW.out]
    go_wp2_with fail
    go_ret2
    exact ⟨rfl, hR, hK⟩
  · have hw : within ws.length a 1 = false := within_not (by omega)
    rw [hw, if_neg (by simp), if_neg (by simp), if_neg (by simp)]
    have HW := Lib.hid hw
    clear hb hg hw
    go_enter Tryz.func95, Tryz.ntmps95
    go_wp2_with fail
    refine (has_calls a 1 w hr').mono ?_
    rintro e w1 ⟨rfl, rfl⟩
    rw [HW.out]
    go_wp2_with fail
    go_ret2
    exact ⟨rfl, hr', Keep.refl _ _⟩

theorem Store_calls {ok : Nat → Prop} {b : Nat} {ws : List Int} {n : Int} (a x : Int) (w : World) (hr : ARep w ok b ws n) :
    Calls Tryz.prog 119 #[.pointer (some ⟨b, 0, none⟩), .int .i64 a, .int .u64 x] w fun e w' =>
      e = .returned (.int .i64 (if within ws.length a 1 then 0 else 2)) ∧ ARep w' ok b (if within ws.length a 1 then ws.set a.toNat x else ws) (if within ws.length a 1 then wrap64 (n + 1) else n) ∧ Keep ok w w' := by
  have hr' := hr
  obtain ⟨g, ob, og, hs, hb, hg⟩ := hr
  have hgb : g ≠ b := fun h => by subst h; exact absurd rfl (hg.ne_ hb (by decide))
  by_cases hx : 0 ≤ a ∧ (1 : Int) ≤ ws.length - a
  · have hw : within ws.length a 1 = true := within_yes (by omega)
    obtain ⟨i, rfl⟩ : ∃ i : Nat, a = (i : Int) := ⟨a.toNat, by omega⟩
    have hil : i < ws.length := by omega
    rw [hw, if_pos rfl, if_pos rfl, if_pos rfl, Int.toNat_natCast]
    have e0 := hb.cell 0
    have e1 := hb.cell 1
    simp at e0 e1
    have ei : w.cell? ⟨g, i, none⟩ = some (.int .u64 (ws[i]?.getD 0)) := by rw [hg.cell, u64s_get hil]
    have z1 := hb.frozen 1
    have zi := hg.frozen i
    have hb1 := hb.set_ 1 (.int .i64 (wrap64 (n + 1)))
    have hg1 := hg.far (p := ⟨b, 1, none⟩) hgb (.int .i64 (wrap64 (n + 1)))
    have hb2 := hb1.far (p := ⟨g, i, none⟩) (Ne.symm hgb) (.int .u64 x)
    have hg2 := hg1.set_ i (.int .u64 x)
    rw [u64s_set] at hg2
    have hR : ARep ((w.setCell ⟨b, 1, none⟩ (.int .i64 (wrap64 (n + 1)))).setCell ⟨g, i, none⟩ (.int .u64 x)) ok b (ws.set i x) (wrap64 (n + 1)) := ⟨g, ob, og, by simpa using hs, by simpa using hb2, hg2⟩
    have hK : Keep ok w ((w.setCell ⟨b, 1, none⟩ (.int .i64 (wrap64 (n + 1)))).setCell ⟨g, i, none⟩ (.int .u64 x)) := ((Keep.refl _ _).set_ (.inl ob) _).set_ (.inl og) _
    have HW := Lib.hid hw
    clear hb hg hw hb1 hg1 hb2 hg2
    generalize ws[i]?.getD 0 = y at ei
    go_enter Tryz.func119, Tryz.ntmps119
    go_wp2_with fail
    refine (has_calls (i : Int) 1 w hr').mono ?_
    rintro e w1 ⟨rfl, rfl⟩
    rw [HW.out]
    go_wp2_with fail
    go_ret
    exact ⟨rfl, hR, hK⟩
  · have hw : within ws.length a 1 = false := within_not (by omega)
    rw [hw, if_neg (by simp), if_neg (by simp), if_neg (by simp)]
    have HW := Lib.hid hw
    clear hb hg hw
    go_enter Tryz.func119, Tryz.ntmps119
    go_wp2_with fail
    refine (has_calls a 1 w hr').mono ?_
    rintro e w1 ⟨rfl, rfl⟩
    rw [HW.out]
    go_wp2_with fail
    go_ret
    exact ⟨rfl, hr', Keep.refl _ _⟩

/-- Several words are at another place, too. -/
def cpy (ws : List Int) (i j k : Nat) : List Int := ws.take j ++ (ws.drop i).take k ++ ws.drop (j + k)
theorem cpy_len {ws : List Int} {i j k : Nat} (hi : i + k ≤ ws.length) (hj : j + k ≤ ws.length) : (cpy ws i j k).length = ws.length := by
  simp only [cpy, List.length_append, List.length_take, List.length_drop]; omega
theorem cpy_zero (ws : List Int) (i j : Nat) : cpy ws i j 0 = ws := by simp [cpy]
theorem cpy_get {ws : List Int} {i j k : Nat} (hi : i + k ≤ ws.length) (hj : j + k ≤ ws.length) (x : Nat) : (cpy ws i j k)[x]? = if j ≤ x ∧ x < j + k then ws[i + (x - j)]? else ws[x]? := by
  unfold cpy
  have l1 : (ws.take j).length = j := by rw [List.length_take]; omega
  have l2 : ((ws.drop i).take k).length = k := by rw [List.length_take, List.length_drop]; omega
  rw [List.append_assoc]
  by_cases h1 : x < j
  · rw [List.getElem?_append_left (by omega), List.getElem?_take, if_pos h1, if_neg (by omega)]
  · rw [List.getElem?_append_right (by omega), l1]
    by_cases h2 : x < j + k
    · rw [if_pos ⟨by omega, h2⟩, List.getElem?_append_left (by omega), List.getElem?_take, if_pos (by omega), List.getElem?_drop]
    · rw [if_neg (by omega), List.getElem?_append_right (by omega), l2, List.getElem?_drop]; congr 1; omega
/-- Several words are 0. -/
def zro (ws : List Int) (i k : Nat) : List Int := ws.take i ++ List.replicate k 0 ++ ws.drop (i + k)
theorem zro_len {ws : List Int} {i k : Nat} (hi : i + k ≤ ws.length) : (zro ws i k).length = ws.length := by
  simp only [zro, List.length_append, List.length_take, List.length_drop, List.length_replicate]; omega
theorem zro_get {ws : List Int} {i k : Nat} (hi : i + k ≤ ws.length) (x : Nat) : (zro ws i k)[x]? = if i ≤ x ∧ x < i + k then some 0 else ws[x]? := by
  unfold zro
  have l1 : (ws.take i).length = i := by rw [List.length_take]; omega
  rw [List.append_assoc]
  by_cases h1 : x < i
  · rw [List.getElem?_append_left (by omega), List.getElem?_take, if_pos h1, if_neg (by omega)]
  · rw [List.getElem?_append_right (by omega), l1]
    by_cases h2 : x < i + k
    · rw [if_pos ⟨by omega, h2⟩, List.getElem?_append_left (by rw [List.length_replicate]; omega), List.getElem?_replicate, if_pos (by omega)]
    · rw [if_neg (by omega), List.getElem?_append_right (by rw [List.length_replicate]; omega), List.length_replicate, List.getElem?_drop]; congr 1; omega

theorem run_slice_cut (g L i k : Nat) (hk : i + k ≤ L) (W : World) :
    ∃ A, (0 < k → A = some ⟨g, i, none⟩) ∧ ∀ W : World, (Instr.slice 73 (.slice (some ⟨g, 0, none⟩) L L) (some (.int .i64 (i : Int))) (some (.int .i64 ((i : Int) + (k : Int)))) none).run Tryz.prog W = .ok (.slice A k (L - i)) W := by
  obtain ⟨ii, hi, hz, hs, hby⟩ := info_parts info_u64
  refine ⟨if L = i then some ⟨g, 0, none⟩ else some ⟨g, i, none⟩, fun h => if_neg (by omega), fun W => ?_⟩
  have hel : Tryz.prog.elem 73 = 31 := by simp [Program.elem, Tryz.underlying73]
  have hu : Tryz.prog.underlying 73 = some (.slice (Tryz.prog.elem 73)) := by rw [hel]; exact Tryz.underlying73
  rw [run_slice_lh W 73 (some ⟨g, 0, none⟩) L L hu .i64 .i64 (i : Int) ((i : Int) + (k : Int)) (by omega) (by omega) (by omega), hel]
  simp [sizeOf, typeInfo, hi, hs, sliced, Result.andThen, Addr.add_lit]
  omega

theorem setCells_blk {g : Nat} {t : TypeId} : ∀ (vs : List Value) (o : Nat) (w : World) (cur : Array Value), Blk w g t cur → o + vs.length ≤ cur.size →
    Keep (fun i => i = g) w (w.setCells g o vs) ∧ ∃ cur', Blk (w.setCells g o vs) g t cur' ∧ cur'.size = cur.size ∧ ∀ i, cur'[i]? = if o ≤ i ∧ i < o + vs.length then vs[i - o]? else cur[i]?
  | [], o, w, cur, hb, _ => ⟨Keep.refl _ _, cur, hb, rfl, fun i => by rw [if_neg (by rintro ⟨h1, h2⟩; simp at h2; omega)]⟩
  | v :: vs, o, w, cur, hb, hl => by
    have hl' : o + (vs.length + 1) ≤ cur.size := by simpa using hl
    have h1 := hb.set_ o v
    obtain ⟨k, cur', h2, h3, h4⟩ := setCells_blk vs (o + 1) (w.setCell ⟨g, o, none⟩ v) _ h1 (by simp; omega)
    refine ⟨((Keep.refl (fun i => i = g) w).set_ (p := ⟨g, o, none⟩) (.inl rfl) v).trans k (fun i h => .inl h), cur', h2, by simpa using h3, fun i => ?_⟩
    rw [h4]
    simp only [List.length_cons]
    by_cases ha : i = o
    · subst ha
      rw [if_neg (by omega), if_pos (by omega), Array.getElem?_setIfInBounds_self_of_lt (by omega), Nat.sub_self]
      rfl
    · by_cases hc : o + 1 ≤ i ∧ i < o + 1 + vs.length
      · rw [if_pos hc, if_pos (by omega), show i - o = (i - (o + 1)) + 1 by omega]
        simp
      · rw [if_neg hc, if_neg (by omega)]
        simp [Array.getElem?_setIfInBounds, Ne.symm ha]

theorem run_clear_u64 (g : Nat) (ws : List Int) (i k c : Nat) (A : Option Addr) (hA : 0 < k → A = some ⟨g, i, none⟩) (hk : i + k ≤ ws.length) (W : World) (hb : Blk W g 31 (u64s ws)) :
    ∃ W', (∀ ty, (Builtin.clear_ #[73] ty #[.slice A k c]).run Tryz.prog W = .ok (.tuple #[]) W') ∧ Blk W' g 31 (u64s (zro ws i k)) ∧ Keep (fun i => i = g) W W' := by
  obtain ⟨ii, hi, hz, hs, hby⟩ := info_parts info_u64
  have hv : ∀ w, (zeroValue 31).run Tryz.prog w = .ok (.int .u64 0) w := fun w => by simp [zeroValue, typeInfo, hi, hz]
  by_cases h0 : k = 0
  · subst h0
    refine ⟨W, fun ty => ?_, by simpa [zro] using hb, Keep.refl _ _⟩
    cases A <;> simp [Builtin.clear_, run_underlying Tryz.underlying73]
  · obtain rfl := hA (by omega)
    have hr := fun ty => Lib.run_clear_slice (P := Tryz.prog) W 73 31 ty (.int .u64 0) Tryz.underlying73 hv rfl rfl g i k c (by omega)
      (fun j hj => by rw [hb.cell, u64s_get (by omega)]; rfl) (fun j hj => hb.frozen _)
    obtain ⟨hK, cur', h2, h3, h4⟩ := setCells_blk (List.replicate k (Value.int .u64 0)) i W _ hb (by rw [u64s_size]; simpa using hk)
    refine ⟨_, hr, ?_, hK⟩
    have : cur' = u64s (zro ws i k) := by
      apply Array.ext_getElem?
      intro x
      rw [h4]
      simp only [u64s, List.getElem?_toArray, List.getElem?_map, zro_get hk, List.length_replicate]
      split
      · rw [List.getElem?_replicate, if_pos (by omega)]; rfl
      · rfl
    rw [← this]; exact h2

theorem run_copy_u64 (g : Nat) (ws : List Int) (i j k c c' : Nat) (A A' : Option Addr) (hA : 0 < k → A = some ⟨g, i, none⟩) (hA' : 0 < k → A' = some ⟨g, j, none⟩) (hi : i + k ≤ ws.length) (hj : j + k ≤ ws.length) (W : World) (hb : Blk W g 31 (u64s ws)) :
    ∃ W', (∀ ty, (Builtin.copy_ #[73, 73] ty #[.slice A' k c', .slice A k c]).run Tryz.prog W = .ok (goInt k) W') ∧ Blk W' g 31 (u64s (cpy ws i j k)) ∧ Keep (fun i => i = g) W W' := by
  obtain ⟨ii, hii, hz, hs, hby⟩ := info_parts info_u64
  have hsz : (Tryz.prog.info? 31).map (·.size) = some 1 := by rw [hii]; simp [hs]
  by_cases h0 : k = 0
  · subst h0
    exact ⟨W, fun ty => run_copy_none W _ _ ty 31 A' A 0 c' 0 c Tryz.underlying73 hsz (by simp), by rw [cpy_zero]; exact hb, Keep.refl _ _⟩
  · obtain rfl := hA (by omega)
    obtain rfl := hA' (by omega)
    have hcl : (((ws.drop i).take k).map (Value.int .u64)).length = k := by rw [List.length_map, List.length_take, List.length_drop]; omega
    have hr := fun ty => run_copy_row (P := Tryz.prog) W 73 73 ty 31 g j k c' ⟨g, i, none⟩ k c (u64s ws) 31 (((ws.drop i).take k).map (Value.int .u64)) Tryz.underlying73 hsz hb (by rw [hcl]; simp)
      (fun x v hv => by
        rw [Addr.add_lit, hb.cell]
        rw [List.getElem?_map, List.getElem?_take] at hv
        split at hv
        · rw [List.getElem?_drop] at hv; simpa [u64s] using hv
        · cases hv)
      (by rw [hcl, u64s_size]; omega) (by intro v hv; simp only [List.mem_map] at hv; obtain ⟨y, _, rfl⟩ := hv; rfl)
    simp only [hcl] at hr
    refine ⟨_, hr, ?_, ⟨rfl, rfl, rfl, by simp [World.setRow], fun x _ hx => setRow_other W g x _ hx⟩⟩
    have := setRow_heap W g (u64s ws) ((u64s ws).toList.take j ++ ((ws.drop i).take k).map (Value.int .u64) ++ (u64s ws).toList.drop (j + k)).toArray 31 _ hb
    have e : ((u64s ws).toList.take j ++ ((ws.drop i).take k).map (Value.int .u64) ++ (u64s ws).toList.drop (j + k)).toArray = u64s (cpy ws i j k) := by
      simp [u64s, cpy, List.map_take, List.map_drop]
    rw [e] at this ⊢
    exact this

theorem Zero_calls {ok : Nat → Prop} {b : Nat} {ws : List Int} {n : Int} (a k : Int) (w : World) (hr : ARep w ok b ws n) :
    Calls Tryz.prog 136 #[.pointer (some ⟨b, 0, none⟩), .int .i64 a, .int .i64 k] w fun e w' =>
      e = .returned (.int .i64 (if within ws.length a k then 0 else 2)) ∧ ARep w' ok b (if within ws.length a k then zro ws a.toNat k.toNat else ws) (if within ws.length a k then wrap64 (n + k) else n) ∧ Keep ok w w' := by
  have hr' := hr
  obtain ⟨g, ob, og, hs, hb, hg⟩ := hr
  have hgb : g ≠ b := fun h => by subst h; exact absurd rfl (hg.ne_ hb (by decide))
  by_cases hx : 0 ≤ a ∧ 0 ≤ k ∧ a ≤ ws.length ∧ k ≤ ws.length - a
  · have hw : within ws.length a k = true := within_yes hx
    obtain ⟨i, rfl⟩ : ∃ i : Nat, a = (i : Int) := ⟨a.toNat, by omega⟩
    obtain ⟨k, rfl⟩ : ∃ i : Nat, k = (i : Int) := ⟨k.toNat, by omega⟩
    have hik : i + k ≤ ws.length := by omega
    rw [hw, if_pos rfl, if_pos rfl, if_pos rfl, Int.toNat_natCast, Int.toNat_natCast]
    have e0 := hb.cell 0
    have e1 := hb.cell 1
    simp at e0 e1
    have z1 := hb.frozen 1
    have hb1 := hb.set_ 1 (.int .i64 (wrap64 (n + k)))
    have hg1 := hg.far (p := ⟨b, 1, none⟩) hgb (.int .i64 (wrap64 (n + k)))
    obtain ⟨A, hA, hsl⟩ := run_slice_cut g ws.length i k hik w
    obtain ⟨W', hcl, hg2, hk2⟩ := run_clear_u64 g ws i k (ws.length - i) A hA hik _ hg1
    have hb2 := hk2.blk hb1 (Ne.symm hgb)
    have hl := zro_len hik
    have hR : ARep W' ok b (zro ws i k) (wrap64 (n + k)) := ⟨g, ob, og, by omega, by rw [hl]; simpa using hb2, hg2⟩
    have hK : Keep ok w W' := ((Keep.refl ok w).set_ (p := ⟨b, 1, none⟩) (.inl ob) _).trans hk2 (fun i h => .inl (h ▸ og))
    have HW := Lib.hid hw
    clear hb hg hw hb1 hg1 hb2 hg2 hk2 hA hl
    go_enter Tryz.func136, Tryz.ntmps136
    go_wp2_with fail
    refine (has_calls (i : Int) (k : Int) w hr').mono ?_
    rintro e w1 ⟨rfl, rfl⟩
    rw [HW.out]
    go_wp2_with fail
    go_ret
    exact ⟨rfl, hR, hK⟩
  · have hw : within ws.length a k = false := within_not hx
    rw [hw, if_neg (by simp), if_neg (by simp), if_neg (by simp)]
    have HW := Lib.hid hw
    clear hb hg hw hx
    go_enter Tryz.func136, Tryz.ntmps136
    go_wp2_with fail
    refine (has_calls a k w hr').mono ?_
    rintro e w1 ⟨rfl, rfl⟩
    rw [HW.out]
    go_wp2_with fail
    go_ret
    exact ⟨rfl, hr', Keep.refl _ _⟩

set_option maxHeartbeats 1000000 in
theorem Copy_calls {ok : Nat → Prop} {b : Nat} {ws : List Int} {n : Int} (a c k : Int) (w : World) (hr : ARep w ok b ws n) :
    Calls Tryz.prog 140 #[.pointer (some ⟨b, 0, none⟩), .int .i64 a, .int .i64 c, .int .i64 k] w fun e w' =>
      e = .returned (.int .i64 (if within ws.length a k && within ws.length c k then 0 else 2)) ∧ ARep w' ok b (if within ws.length a k && within ws.length c k then cpy ws a.toNat c.toNat k.toNat else ws) (if within ws.length a k && within ws.length c k then wrap64 (n + 2 * k) else n) ∧ Keep ok w w' := by
  have hr' := hr
  obtain ⟨g, ob, og, hs, hb, hg⟩ := hr
  have hgb : g ≠ b := fun h => by subst h; exact absurd rfl (hg.ne_ hb (by decide))
  by_cases hx : 0 ≤ a ∧ 0 ≤ k ∧ a ≤ ws.length ∧ k ≤ ws.length - a
  · have hw : within ws.length a k = true := within_yes hx
    by_cases hy : 0 ≤ c ∧ 0 ≤ k ∧ c ≤ ws.length ∧ k ≤ ws.length - c
    · have hv : within ws.length c k = true := within_yes hy
      obtain ⟨i, rfl⟩ : ∃ i : Nat, a = (i : Int) := ⟨a.toNat, by omega⟩
      obtain ⟨j, rfl⟩ : ∃ i : Nat, c = (i : Int) := ⟨c.toNat, by omega⟩
      obtain ⟨k, rfl⟩ : ∃ i : Nat, k = (i : Int) := ⟨k.toNat, by omega⟩
      have hik : i + k ≤ ws.length := by omega
      have hjk : j + k ≤ ws.length := by omega
      rw [hw, hv, Bool.and_true, if_pos rfl, if_pos rfl, if_pos rfl, Int.toNat_natCast, Int.toNat_natCast, Int.toNat_natCast]
      have e0 := hb.cell 0
      have e1 := hb.cell 1
      simp at e0 e1
      have z1 := hb.frozen 1
      have hb1 := hb.set_ 1 (.int .i64 (wrap64 (n + 2 * k)))
      have hg1 := hg.far (p := ⟨b, 1, none⟩) hgb (.int .i64 (wrap64 (n + 2 * k)))
      have hk1 := (Keep.refl ok w).set_ (p := ⟨b, 1, none⟩) (.inl ob) (.int .i64 (wrap64 (n + 2 * k)))
      obtain ⟨A, hA, hsl⟩ := run_slice_cut g ws.length i k hik w
      obtain ⟨A', hA', hsl'⟩ := run_slice_cut g ws.length j k hjk w
      obtain ⟨W', hcl, hg2, hk2⟩ := run_copy_u64 g ws i j k (ws.length - i) (ws.length - j) A A' hA hA' hik hjk _ (hg1.drew)
      have hb2 := hk2.blk hb1.drew (Ne.symm hgb)
      have hl := cpy_len hik hjk
      have hR : ARep W' ok b (cpy ws i j k) (wrap64 (n + 2 * k)) := ⟨g, ob, og, by omega, by rw [hl]; simpa using hb2, hg2⟩
      have hK : Keep ok w W' := hk1.drew.trans hk2 (fun i h => .inl (h ▸ og))
      have s1 := IntWalk.i64_in ((i : Int) + (k : Int)) (by omega)
      have s2 := IntWalk.i64_in ((j : Int) + (k : Int)) (by omega)
      have e0' := hb1.cell 0
      simp at e0'
      have HW := Lib.hid hw
      have HV := Lib.hid hv
      clear hb hg hw hb1 hg1 hb2 hg2 hk1 hk2 hA hA' hl hv
      go_enter Tryz.func140, Tryz.ntmps140
      go_wp2_with fail
      refine (has_calls (i : Int) (k : Int) w hr').mono ?_
      rintro e w1 ⟨rfl, rfl⟩
      rw [HW.out]
      go_wp2_with fail
      refine (has_calls (j : Int) (k : Int) w hr').mono ?_
      rintro e w1 ⟨rfl, rfl⟩
      rw [HV.out]
      go_wp2_with fail
      go_region
      all_goals
        go_wp2_with fail
        go_ret
        first | exact ⟨rfl, hR, hK⟩ | exact ⟨rfl, hR.drewN 1, hK.drewN 1⟩
    · have hv : within ws.length c k = false := within_not hy
      rw [hw, hv, Bool.and_false, if_neg (by simp), if_neg (by simp), if_neg (by simp)]
      have HW := Lib.hid hw
      have HV := Lib.hid hv
      clear hb hg hw hx hv hy
      go_enter Tryz.func140, Tryz.ntmps140
      go_wp2_with fail
      refine (has_calls a k w hr').mono ?_
      rintro e w1 ⟨rfl, rfl⟩
      rw [HW.out]
      go_wp2_with fail
      refine (has_calls c k w hr').mono ?_
      rintro e w1 ⟨rfl, rfl⟩
      rw [HV.out]
      go_wp2_with fail
      go_ret
      exact ⟨rfl, hr', Keep.refl _ _⟩
  · have hw : within ws.length a k = false := within_not hx
    rw [hw, Bool.false_and, if_neg (by simp), if_neg (by simp), if_neg (by simp)]
    have HW := Lib.hid hw
    clear hb hg hw hx
    go_enter Tryz.func140, Tryz.ntmps140
    go_wp2_with fail
    refine (has_calls a k w hr').mono ?_
    rintro e w1 ⟨rfl, rfl⟩
    rw [HW.out]
    go_wp2_with fail
    go_ret
    exact ⟨rfl, hr', Keep.refl _ _⟩
end Go.Proofs.YtihmkkjmnbehbaaGreat.Ar
