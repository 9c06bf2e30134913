/- Texts of the whole heap, joined: Mem ClassR Class Queue. No condition beside those that each lemma names. -/
import Derived.Test.YtihmkkjmnbehbaaGreatProg
import Derived.WalkKit
import Derived.Below
import Derived.Deep.Draws
import Derived.Lib.Hide
import Derived.BigQuiet
import Derived.Deep.QuietTactic
import Derived.WalkLawsBesides
import Derived.WalkSpells
import Derived.RowKit
import Derived.Deep.LoopGhost
import Derived.Outline
import Derived.IntWalk
import Derived.Maps.AppendAt
import Derived.Laws.Tables
import Derived.Laws.CopyRow
/- Words for memory: a block that is known whole; what a call leaves as it was. No condition. -/
set_option linter.unusedVariables false
set_option linter.unusedSimpArgs false
namespace Go.Proofs.YtihmkkjmnbehbaaGreat.W
open Go.RowKit

/-- Block g is just the cells cs of element type t, none frozen. -/
def Blk (w : World) (g : Nat) (t : TypeId) (cs : Array Value) : Prop := w.heap[g]? = some (.cells cs t (0, 0))

section
variable {w w' : World} {g : Nat} {t : TypeId} {cs : Array Value}
theorem Blk.lt (h : Blk w g t cs) : g < w.heap.size := by
  rcases Nat.lt_or_ge g w.heap.size with hlt | hge
  · exact hlt
  · unfold Blk at h; rw [Array.getElem?_eq_none hge] at h; cases h
theorem Blk.cell (h : Blk w g t cs) (i : Nat) : w.cell? ⟨g, i, none⟩ = cs[i]? := by
  unfold Blk at h
  simp [World.cell?, h]
theorem Blk.frozen (h : Blk w g t cs) (i : Nat) : w.frozen? ⟨g, i, none⟩ = false := by
  unfold Blk at h
  simp [World.frozen?, h]
theorem Blk.new (w : World) (t : TypeId) (cs : Array Value) : Blk (w.alloc (.cells cs t)) w.heap.size t cs := by
  unfold Blk World.alloc
  simp
theorem Blk.drew (h : Blk w g t cs) : Blk w.drew g t cs := h
theorem Blk.drewN (h : Blk w g t cs) (n : Nat) : Blk (w.drewN n) g t cs := h
theorem Blk.alloc (h : Blk w g t cs) (o : Obj) : Blk (w.alloc o) g t cs := (Below.heap_alloc w o g h.lt).trans h
theorem Blk.set_ (h : Blk w g t cs) (i : Nat) (u : Value) : Blk (w.setCell ⟨g, i, none⟩ u) g t (cs.setIfInBounds i u) := by
  unfold Blk at h ⊢
  simp [World.setCell, Array.getElem?_modify, h]
theorem Blk.far (h : Blk w g t cs) {p : Addr} (hp : g ≠ p.block) (u : Value) : Blk (w.setCell p u) g t cs := (Below.heap_setCell w p u g hp).trans h
theorem Blk.same (h : Blk w g t cs) (hw : w'.heap[g]? = w.heap[g]?) : Blk w' g t cs := hw.trans h
theorem Blk.ne_ {g' : Nat} {t' : TypeId} {cs' : Array Value} (h : Blk w g t cs) (h' : Blk w g' t' cs') (hne : t ≠ t') : g ≠ g' := by
  rintro rfl
  unfold Blk at h h'
  rw [h] at h'
  injection h' with h'
  injection h' with _ ht
  exact hne ht
end

/-- What a call that may write the blocks of 'ok' (and new ones) leaves as it was. -/
structure Keep (ok : Nat → Prop) (w w' : World) : Prop where
  os : w'.os = w.os
  tape : w'.tape = w.tape
  output : w'.output = w.output
  size : w.heap.size ≤ w'.heap.size
  block : ∀ k, k < w.heap.size → ¬ ok k → w'.heap[k]? = w.heap[k]?

section
variable {ok ok' : Nat → Prop} {a b c w : World}
theorem Keep.refl (ok : Nat → Prop) (w : World) : Keep ok w w := ⟨rfl, rfl, rfl, Nat.le_refl _, fun _ _ _ => rfl⟩
theorem Keep.trans (h : Keep ok a b) (k : Keep ok' b c) (hs : ∀ i, ok' i → ok i ∨ a.heap.size ≤ i) : Keep ok a c :=
  ⟨k.os.trans h.os, k.tape.trans h.tape, k.output.trans h.output, Nat.le_trans h.size k.size, fun i hi hn =>
    (k.block i (Nat.lt_of_lt_of_le hi h.size) (fun h' => (hs i h').elim hn (fun g => by omega))).trans (h.block i hi hn)⟩
theorem Keep.drew (h : Keep ok a w) : Keep ok a w.drew := ⟨h.os, h.tape, h.output, h.size, h.block⟩
theorem Keep.drewN (h : Keep ok a w) (n : Nat) : Keep ok a (w.drewN n) := ⟨h.os, h.tape, h.output, h.size, h.block⟩
theorem Keep.alloc (h : Keep ok a w) (o : Obj) : Keep ok a (w.alloc o) :=
  ⟨h.os, h.tape, h.output, Nat.le_trans h.size (by simp), fun i hi hn => (Below.heap_alloc w o i (Nat.lt_of_lt_of_le hi h.size)).trans (h.block i hi hn)⟩
theorem Keep.set_ (h : Keep ok a w) {p : Addr} (hp : ok p.block ∨ a.heap.size ≤ p.block) (u : Value) : Keep ok a (w.setCell p u) :=
  ⟨h.os, h.tape, h.output, by simpa [World.setCell] using h.size, fun i hi hn => (Below.heap_setCell w p u i (by
    rintro rfl
    rcases hp with hp | hp
    · exact hn hp
    · omega)).trans (h.block i hi hn)⟩
theorem Keep.mono (h : Keep ok a b) (hs : ∀ i, ok i → ok' i ∨ a.heap.size ≤ i) : Keep ok' a b :=
  ⟨h.os, h.tape, h.output, h.size, fun i hi hn => h.block i hi (fun h' => (hs i h').elim hn (fun g => by omega))⟩
theorem Keep.below (h : Keep ok a b) (hs : ∀ i, ok i → a.heap.size ≤ i) : Below a.heap.size a b :=
  ⟨h.os, h.tape, h.output, h.size, fun i hi => h.block i hi (fun h' => by have := hs i h'; omega)⟩
theorem Keep.of_below (h : Below a.heap.size a b) : Keep ok a b := ⟨h.os, h.tape, h.output, h.size, fun i hi _ => h.block i hi⟩
theorem Keep.of_grown {row : Option Nat} (h : a.grownBy b row) (hs : ∀ g, row = some g → ok g) : Keep ok a b :=
  ⟨h.os, h.tape, h.output, h.size, fun i hi hn => h.block i hi (fun e => hn (hs i e.symm))⟩
theorem Keep.blk {g : Nat} {t : TypeId} {cs : Array Value} (h : Keep ok a b) (hb : Blk a g t cs) (hn : ¬ ok g) : Blk b g t cs := (h.block g hb.lt hn).trans hb
end

/-- A list of whole numbers, as cells. -/
abbrev ints (l : List Int) : Array Value := (l.map (Value.int .i64)).toArray
theorem ints_get {l : List Int} {i : Nat} (h : i < l.length) : (ints l)[i]? = some (.int .i64 (l[i]?.getD 0)) := by
  simp [ints, h]
theorem ints_set (l : List Int) (i : Nat) (x : Int) : (ints l).setIfInBounds i (.int .i64 x) = ints (l.set i x) := by
  simp [ints]

/-- A slice of whole numbers that reads as a list; its cells lie in a block of 'ok'. -/
def SL (w : World) (ok : Nat → Prop) (k : IntKind) (v : Value) (l : List Int) : Prop :=
  ∃ (A : Option Addr) (c : Nat), v = .slice A l.length c ∧ l.length ≤ 9223372036854775807 ∧
    (0 < l.length → ∃ b o, A = some ⟨b, o, none⟩ ∧ ok b ∧ b < w.heap.size ∧ ∀ j, j < l.length → w.cell? ⟨b, o + j, none⟩ = some (.int k (l[j]?.getD 0)))

section
variable {w w' : World} {ok ok' : Nat → Prop} {k : IntKind} {v : Value} {l : List Int}
theorem SL.keep (h : SL w ok k v l) (hk : Keep ok' w w') (hn : ∀ i, ok i → ok' i → False) : SL w' ok k v l := by
  obtain ⟨A, c, e, hl, hc⟩ := h
  refine ⟨A, c, e, hl, fun h0 => ?_⟩
  obtain ⟨b, o, hA, hb, hlt, hcell⟩ := hc h0
  exact ⟨b, o, hA, hb, Nat.lt_of_lt_of_le hlt hk.size, fun j hj => (World.cell?_of_block (hk.block b hlt (fun h' => hn b hb h'))).trans (hcell j hj)⟩
theorem SL.mono (h : SL w ok k v l) (hs : ∀ i, ok i → ok' i) : SL w ok' k v l := by
  obtain ⟨A, c, e, hl, hc⟩ := h
  exact ⟨A, c, e, hl, fun h0 => by obtain ⟨b, o, hA, hb, r⟩ := hc h0; exact ⟨b, o, hA, hs b hb, r⟩⟩
theorem SL.drewN (h : SL w ok k v l) (n : Nat) : SL (w.drewN n) ok k v l := h
theorem SL.alloc (h : SL w ok k v l) (o : Obj) : SL (w.alloc o) ok k v l := h.keep (ok' := fun _ => False) ((Keep.refl _ w).alloc o) (fun _ _ h => h)
theorem SL.of_blk {g : Nat} {t : TypeId} {l : List Int} {c : Nat} (h : Blk w g t ((l.map (Value.int k)).toArray)) (hg : ok g) (hl : l.length ≤ 9223372036854775807) : SL w ok k (.slice (some ⟨g, 0, none⟩) l.length c) l :=
  ⟨_, _, rfl, hl, fun _ => ⟨g, 0, rfl, hg, h.lt, fun j hj => by rw [Nat.zero_add]; exact (h.cell j).trans (by simp [hj])⟩⟩
theorem SL.of_own {base : Nat} {e : TypeId} (h : w.ownsRow base e 1 v l.length (l.map (Value.int k))) (hok : ∀ i, base ≤ i → ok i) : SL w ok k v l := by
  rcases h.2 with ⟨rfl, h0⟩ | ⟨g, cap, cur, rfl, hb, hg, hn, hcap, hcs, htake⟩
  · have : l = [] := List.eq_nil_of_length_eq_zero h0
    subst this
    exact ⟨none, 0, rfl, by simp, fun h => by simp at h⟩
  · refine ⟨_, _, rfl, by unfold maxLen at hcap; omega, fun _ => ⟨g, 0, rfl, hok g hb, ?_, fun j hj => ?_⟩⟩
    · exact (Array.getElem?_eq_some_iff.1 hg).1
    · have := h.cells (g := g) rfl j (.int k (l[j]?.getD 0)) (by simp [hj])
      simpa [Addr.add_lit] using this
end

/-- Block g begins with the cells xs (there may be more behind them), none frozen. -/
def Pre (w : World) (g : Nat) (t : TypeId) (xs : List Value) : Prop := ∃ cs : Array Value, Blk w g t cs ∧ xs.length ≤ cs.size ∧ cs.toList.take xs.length = xs

section
variable {w w' : World} {g : Nat} {t : TypeId} {xs : List Value}
theorem Pre.lt (h : Pre w g t xs) : g < w.heap.size := by obtain ⟨cs, hb, _⟩ := h; exact hb.lt
theorem Pre.cell (h : Pre w g t xs) {i : Nat} (hi : i < xs.length) : w.cell? ⟨g, i, none⟩ = xs[i]? := by
  obtain ⟨cs, hb, hl, ht⟩ := h
  rw [hb.cell, ← ht, List.getElem?_take, if_pos hi, Array.getElem?_toList]
theorem Pre.frozen (h : Pre w g t xs) (i : Nat) : w.frozen? ⟨g, i, none⟩ = false := by obtain ⟨cs, hb, _⟩ := h; exact hb.frozen i
theorem Pre.set_ (h : Pre w g t xs) (i : Nat) (hi : i < xs.length) (u : Value) : Pre (w.setCell ⟨g, i, none⟩ u) g t (xs.set i u) := by
  obtain ⟨cs, hb, hl, ht⟩ := h
  refine ⟨_, hb.set_ i u, by simpa using hl, ?_⟩
  rw [List.length_set, Array.toList_setIfInBounds, List.take_set, ht]
theorem Pre.far (h : Pre w g t xs) {p : Addr} (hp : g ≠ p.block) (u : Value) : Pre (w.setCell p u) g t xs := by
  obtain ⟨cs, hb, hl, ht⟩ := h
  exact ⟨cs, hb.far hp u, hl, ht⟩
theorem Pre.alloc (h : Pre w g t xs) (o : Obj) : Pre (w.alloc o) g t xs := by
  obtain ⟨cs, hb, hl, ht⟩ := h
  exact ⟨cs, hb.alloc o, hl, ht⟩
theorem Pre.drewN (h : Pre w g t xs) (n : Nat) : Pre (w.drewN n) g t xs := h
theorem Pre.keep {ok : Nat → Prop} (h : Pre w g t xs) (hk : Keep ok w w') (hn : ¬ ok g) : Pre w' g t xs := by
  obtain ⟨cs, hb, hl, ht⟩ := h
  exact ⟨cs, hk.blk hb hn, hl, ht⟩
theorem Pre.of_blk {cs : Array Value} (h : Blk w g t cs) : Pre w g t cs.toList := ⟨cs, h, by simp, by simp [List.take_of_length_le]⟩
theorem Pre.of_own {base n cap : Nat} (h : w.ownsRow base t 1 (.slice (some ⟨g, 0, none⟩) n cap) n xs) : Pre w g t xs := by
  have hx := h.1
  rcases h.2 with ⟨h', _⟩ | ⟨g', cap', cur, h', _, hg, hn, _, hcs, htake⟩
  · simp at h'
  · simp only [Value.slice.injEq, Option.some.injEq, Addr.mk.injEq, and_true, true_and] at h'
    obtain ⟨rfl, rfl⟩ := h'
    exact ⟨cur, hg, by omega, by rw [hx]; exact htake⟩
end

/-- 'make([]T, n)' of one-cell elements: the run, as one equation. -/
theorem run_mk {P : Program} {t e : TypeId} {i : TypeInfo} {z : Value} (ht : P.underlying t = some (.slice e)) (hi : P.info? e = some i) (hz : i.zero = some z) (hs : i.size = 1) (hzc : z.cells = #[z])
    (n : Int) (h0 : 0 ≤ n) (hb : (i.bytes : Int) * n ≤ 281474976710656) (h63 : n ≤ 9223372036854775807) (w : World) :
    (Instr.makeSlice t (.int .i64 n) (.int .i64 n)).run P w = .ok (.slice (some ⟨w.heap.size, 0, none⟩) n.toNat n.toNat) (w.alloc (.cells (List.replicate n.toNat z).toArray e)) := by
  rw [run_make w t e i z ht hi hz .i64 .i64 n n h0 (Int.le_refl _) hb h63, hs, Nat.mul_one, hzc]
  have : madeCells #[z] n.toNat = (List.replicate n.toNat z).toArray := by
    rw [← toList_madeCells_one z n.toNat]
  rw [this]
end Go.Proofs.YtihmkkjmnbehbaaGreat.W
/- Sizes of cells, as a plain function: what it is at least and at most, that it rises, and that it is its own size. -/
set_option linter.unusedVariables false
namespace Go.Proofs.YtihmkkjmnbehbaaGreat.CR
open Go.RowKit

/-- The least of n, n + n/2, 2n, .. that is not below x (d doublings at most). -/
def R : Nat → Int → Int → Int
  | 0, n, _ => n
  | d + 1, n, x => if x ≤ n then n else if x ≤ n + n / 2 then n + n / 2 else R d (2 * n) x

theorem R_ge_n (d : Nat) : ∀ n x : Int, 0 ≤ n → n ≤ R d n x := by
  induction d with
  | zero => intro n x _; exact Int.le_refl _
  | succ d ih =>
    intro n x hn
    unfold R
    split
    · exact Int.le_refl _
    · split
      · omega
      · have := ih (2 * n) x (by omega); omega

theorem R_le (d : Nat) : ∀ n x : Int, 0 ≤ n → R d n x ≤ n * 2 ^ d := by
  induction d with
  | zero => intro n x _; simp [R]
  | succ d ih =>
    intro n x hn
    have h1 : (1 : Int) ≤ 2 ^ d := by exact_mod_cast Nat.one_le_two_pow
    have h2 : n ≤ n * 2 ^ d := by
      have := Int.mul_le_mul_of_nonneg_left h1 hn
      omega
    have h3 : n * 2 ^ (d + 1) = 2 * (n * 2 ^ d) := by rw [Int.pow_succ, ← Int.mul_assoc, Int.mul_comm]
    unfold R
    split
    · omega
    · split
      · omega
      · have := ih (2 * n) x (by omega)
        rw [Int.mul_assoc] at this
        omega

theorem R_ge_x (d : Nat) : ∀ n x : Int, 0 ≤ n → x ≤ n * 2 ^ d → x ≤ R d n x := by
  induction d with
  | zero => intro n x _ h; simpa [R] using h
  | succ d ih =>
    intro n x hn h
    have h3 : n * 2 ^ (d + 1) = 2 * n * 2 ^ d := by rw [Int.pow_succ, ← Int.mul_assoc, Int.mul_right_comm, Int.mul_comm n 2]
    unfold R
    split
    · assumption
    · split
      · assumption
      · exact ih (2 * n) x (by omega) (by omega)

theorem R_mono (d : Nat) : ∀ n x y : Int, 0 ≤ n → x ≤ y → R d n x ≤ R d n y := by
  induction d with
  | zero => intro n x y _ _; exact Int.le_refl _
  | succ d ih =>
    intro n x y hn h
    have g1 := R_ge_n d (2 * n) y (by omega)
    have g2 := ih (2 * n) x y (by omega) h
    unfold R
    repeat' split
    all_goals omega

theorem R_idem (d : Nat) : ∀ n x : Int, 0 < n → n % 2 = 0 → R d n (R d n x) = R d n x := by
  induction d with
  | zero => intro n x _ _; rfl
  | succ d ih =>
    intro n x hn he
    have g1 := R_ge_n d (2 * n) x (by omega)
    by_cases h1 : x ≤ n
    · have e : R (d + 1) n x = n := by unfold R; rw [if_pos h1]
      rw [e]; unfold R; rw [if_pos (Int.le_refl _)]
    · by_cases h2 : x ≤ n + n / 2
      · have e : R (d + 1) n x = n + n / 2 := by unfold R; rw [if_neg h1, if_pos h2]
        rw [e]; unfold R; rw [if_neg (by omega), if_pos (Int.le_refl _)]
      · have e : R (d + 1) n x = R d (2 * n) x := by conv => lhs; unfold R
                                                     rw [if_neg h1, if_neg h2]
        rw [e]
        conv => lhs; unfold R
        rw [if_neg (by omega), if_neg (by omega)]
        exact ih (2 * n) x (by omega) (by omega)

/-- Less than half is wasted, but for the first. -/
theorem R_tight (d : Nat) : ∀ n x : Int, 0 < n → n % 4 = 0 → n < x + n / 4 → x ≤ n * 2 ^ d → 2 * (R d n x - x) < R d n x := by
  induction d with
  | zero => intro n x h1 h2 h3 h4; simp [R] at h4 ⊢; omega
  | succ d ih =>
    intro n x h1 h2 h3 h4
    have e3 : n * 2 ^ (d + 1) = 2 * n * 2 ^ d := by rw [Int.pow_succ, ← Int.mul_assoc, Int.mul_right_comm, Int.mul_comm n 2]
    unfold R
    split
    · omega
    · split
      · omega
      · exact ih (2 * n) x (by omega) (by omega) (by omega) (by omega)

theorem R_tight4 (x : Int) (h0 : 0 ≤ x) (h : x ≤ 1099511627776) : 2 * (R 38 4 x - x) < R 38 4 x + 7 := by
  by_cases h3 : 3 < x
  · have := R_tight 38 4 x (by omega) (by omega) (by omega) (by rw [show (4 : Int) * 2 ^ 38 = 1099511627776 from by decide]; exact h)
    omega
  · have e : R 38 4 x = 4 := by unfold R; rw [if_pos (by omega)]
    rw [e]; omega
theorem R_bounds (x : Int) : 4 ≤ R 38 4 x ∧ R 38 4 x ≤ 1099511627776 := by
  have h1 := R_ge_n 38 4 x (by omega)
  have h2 := R_le 38 4 x (by omega)
  rw [show (4 : Int) * 2 ^ 38 = 1099511627776 from by decide] at h2
  exact ⟨h1, h2⟩
theorem R_fits (x : Int) (h : x ≤ 1099511627776) : x ≤ R 38 4 x := R_ge_x 38 4 x (by omega) (by rw [show (4 : Int) * 2 ^ 38 = 1099511627776 from by decide]; exact h)

/-- Whole pages: not one more than are wanted. -/
theorem pages_up {p w : Int} (hp : 0 < p) (hw : 0 < w) : w ≤ (w / p + (if 1 < w % p then 1 else w % p)) * p ∧ ((w / p + (if 1 < w % p then 1 else w % p)) - 1) * p < w := by
  have h1 := Int.mul_ediv_add_emod w p
  have h2 := Int.emod_nonneg w (by omega : p ≠ 0)
  have h3 := Int.emod_lt_of_pos w hp
  rw [Int.mul_comm] at h1
  by_cases h0 : w % p = 0
  · have e : (if 1 < w % p then 1 else w % p) = 0 := by rw [h0]; simp
    rw [e, Int.add_zero, Int.sub_mul]
    omega
  · have e : (if 1 < w % p then 1 else w % p) = 1 := by split <;> omega
    rw [e, Int.add_sub_cancel, Int.add_mul]
    omega
end Go.Proofs.YtihmkkjmnbehbaaGreat.CR
/- Contracts of package class. No condition. -/
set_option linter.unusedVariables false
set_option linter.unusedSimpArgs false
namespace Go.Proofs.YtihmkkjmnbehbaaGreat.Cl
open Go.RowKit Go.Proofs.YtihmkkjmnbehbaaGreat.W Go.Proofs.YtihmkkjmnbehbaaGreat.CR

/-- The size of the cell for so many words. -/
def rnd (x : Int) : Int := R 38 4 x
theorem rnd_b (x : Int) : 4 ≤ rnd x ∧ rnd x ≤ 1099511627776 := R_bounds x
theorem R_stop (d : Nat) (n x : Int) (h : x ≤ n) : R d n x = n := by
  cases d with
  | zero => rfl
  | succ d => unfold R; rw [if_pos h]
set_option maxHeartbeats 1000000 in
theorem Round_calls (x : Int) (w : World) : Calls Tryz.prog 169 #[.int .i64 x] w fun e w' => e = .returned (.int .i64 (rnd x)) ∧ w = w' := by
  obtain ⟨V, hV⟩ : ∃ V, rnd x = V := ⟨_, rfl⟩
  rw [hV]
  have HV := Lib.hid hV
  clear hV
  go_enter Tryz.func169, Tryz.ntmps169
  go_wp2_with fail
  go_loopg [3] 38 (fun d z wr => ∃ n : Int, z = .int .i64 n ∧ 4 ≤ n ∧ n * 2 ^ d = 1099511627776 ∧ R d n x = V ∧ wr = w)
  case atStart => exact ⟨4, rfl, by omega, by decide, HV.out, rfl⟩
  case round =>
    obtain ⟨n, rfl, hn, hp, hr, rfl⟩ := hrel
    have HR := Lib.hid hr
    have HP := Lib.hid hp
    clear hr hp
    have hn9 : n ≤ 1099511627776 := by
      have h1 : (1 : Int) ≤ 2 ^ gk := by exact_mod_cast Nat.one_le_two_pow
      have h2 := Int.mul_le_mul_of_nonneg_left h1 (by omega : (0 : Int) ≤ n)
      have h3 := HP.out
      omega
    by_cases hx : n < x
    · cases gk with
      | zero =>
        have h3 : n = 1099511627776 := by have := HP.out; simpa using this
        have h4 : V = n := by rw [← HR.out]; rfl
        have H4 := Lib.hid h4
        have h5 : ¬ n < 1099511627776 := by omega
        clear h3 h4
        go_wp2_with fail
        go_ret
        exact ⟨by rw [H4.out] <;> rfl, rfl⟩
      | succ d =>
        have h3 : n * 2 ^ (d + 1) = 2 * n * 2 ^ d := by rw [Int.pow_succ, ← Int.mul_assoc, Int.mul_right_comm, Int.mul_comm n 2]
        have h4 : 2 * n ≤ 1099511627776 := by
          have h1 : (1 : Int) ≤ 2 ^ d := by exact_mod_cast Nat.one_le_two_pow
          have h2 := Int.mul_le_mul_of_nonneg_left h1 (by omega : (0 : Int) ≤ 2 * n)
          have h5 := HP.out
          omega
        have h5 : n < 1099511627776 := by omega
        have hR : R (d + 1) n x = if x ≤ n + n / 2 then n + n / 2 else R d (2 * n) x := by
          show (if x ≤ n then n else if x ≤ n + n / 2 then n + n / 2 else R d (2 * n) x) = _
          rw [if_neg (by omega)]
        by_cases hm : x ≤ n + n / 2
        · have h6 : V = n + n / 2 := by rw [← HR.out, hR, if_pos hm]
          have H6 := Lib.hid h6
          clear h3 h6 hR
          go_wp2_with fail
          go_ret
          exact ⟨by rw [H6.out] <;> rfl, rfl⟩
        · have h6 : R d (2 * n) x = V := by rw [← HR.out, hR, if_neg hm]
          have h7 : n * 2 * 2 ^ d = 1099511627776 := by have := HP.out; rw [h3] at this; rw [Int.mul_comm n 2]; exact this
          have H6 := Lib.hid h6
          have H7 := Lib.hid h7
          clear h3 h6 h7 hR
          go_wp2_with fail
          go_roundg d
          case measure => omega
          case rel => exact ⟨n * 2, rfl, by omega, H7.out, by rw [Int.mul_comm n 2]; exact H6.out, rfl⟩
    · have h4 : V = n := by rw [← HR.out]; exact R_stop _ _ _ (by omega)
      have H4 := Lib.hid h4
      clear h4
      go_wp2_with fail
      go_ret
      exact ⟨by rw [H4.out] <;> rfl, rfl⟩

def big (p x : Int) : Bool := decide (p / 2 < rnd x)
theorem Large_calls (p x : Int) (w : World) (h0 : 0 ≤ p) (h9 : p ≤ 1048576) : Calls Tryz.prog 167 #[.int .i64 p, .int .i64 x] w fun e w' => e = .returned (.bool (big p x)) ∧ w = w' := by
  unfold big
  have hb := rnd_b x
  have hR := Round_calls x w
  generalize rnd x = y at hb hR ⊢
  have HR := Lib.hid hR
  obtain ⟨hb0, hb1⟩ := hb
  clear hR
  go_enter Tryz.func167, Tryz.ntmps167
  go_wp2_with fail
  refine HR.out.mono ?_
  rintro e w1 ⟨rfl, rfl⟩
  go_wp2_with fail
  go_ret
  exact ⟨rfl, rfl⟩
/-- How many pages so many words take. -/
def pgs (p x : Int) : Int := if p < 1 ∨ x < 1 then 0 else x / p + (if 1 < x % p then 1 else x % p)
theorem pgs_b {p x : Int} (hp : 1 ≤ p) (hx : 1 ≤ x) : 1 ≤ pgs p x ∧ pgs p x ≤ x := by
  unfold pgs
  rw [if_neg (by omega)]
  have e1 := Int.mul_ediv_add_emod x p
  have e2 := Int.emod_nonneg x (by omega : p ≠ 0)
  have e3 := Int.ediv_nonneg (by omega : 0 ≤ x) (by omega : 0 ≤ p)
  have e4 : x / p ≤ p * (x / p) := by
    have := Int.mul_le_mul_of_nonneg_right hp e3
    omega
  rcases Int.lt_or_le 0 (x / p) with h | h
  · split <;> omega
  · have h0 : x / p = 0 := by omega
    rw [h0] at e1 ⊢
    split <;> omega
theorem Pages_calls (p x : Int) (w : World) (hp9 : p ≤ 1048576) (hx9 : x ≤ 9223372036854775807) : Calls Tryz.prog 45 #[.int .i64 p, .int .i64 x] w fun e w' => e = .returned (.int .i64 (pgs p x)) ∧ ∃ n, w' = w.drewN n := by
  rcases (by omega : p < 1 ∨ (1 ≤ p ∧ x < 1) ∨ (1 ≤ p ∧ 1 ≤ x)) with h | ⟨h, h'⟩ | ⟨h, h'⟩
  · rw [show pgs p x = 0 from if_pos (.inl h)]
    go_enter Tryz.func45, Tryz.ntmps45
    go_wp2_with fail
    go_ret
    exact ⟨rfl, 0, rfl⟩
  · rw [show pgs p x = 0 from if_pos (.inr h')]
    go_enter Tryz.func45, Tryz.ntmps45
    go_wp2_with fail
    go_ret
    exact ⟨rfl, 0, rfl⟩
  · have hb := pgs_b h h'
    have hv : pgs p x = x / p + (if 1 < x % p then 1 else x % p) := if_neg (by omega)
    rw [hv] at hb ⊢
    have e2 := Int.emod_nonneg x (by omega : p ≠ 0)
    have e3 := Int.ediv_nonneg (by omega : 0 ≤ x) (by omega : 0 ≤ p)
    have e4 := Int.ediv_le_self p (by omega : 0 ≤ x)
    have hq := IntWalk.i64_quo x p (by omega)
    have hm := IntWalk.rem_in x p (by omega)
    have hm2 := IntWalk.i64_in (x % p) (by have := Int.emod_lt_of_pos x (by omega : 0 < p); omega)
    have hc0 : (p == 0) = false := by simp; omega
    have hc1 : ¬ p = 0 := by omega
    obtain ⟨y, hy⟩ : ∃ y, (if 1 < x % p then 1 else x % p) = y := ⟨_, rfl⟩
    rw [hy] at hb ⊢
    have hs := IntWalk.i64_in (x / p + y) (by omega)
    clear hv
    go_enter Tryz.func45, Tryz.ntmps45
    go_wp2_with fail
    go_quiet (fail)
    go_wp2_with fail
    go_ret
    exact ⟨rfl, _, rfl⟩
theorem Cells_calls (p s : Int) (w : World) (hs : 1 ≤ s) (hp : 1 ≤ p) (hp9 : p ≤ 1048576) : Calls Tryz.prog 179 #[.int .i64 p, .int .i64 s] w fun e w' => e = .returned (.int .i64 (p / s)) ∧ w = w' := by
  have hq := IntWalk.i64_quo p s (by omega)
  have hc0 : (s == 0) = false := by simp; omega
  have hc1 : ¬ s = 0 := by omega
  have e3 := Int.ediv_nonneg (by omega : 0 ≤ p) (by omega : 0 ≤ s)
  have e4 := Int.ediv_le_self s (by omega : 0 ≤ p)
  go_enter Tryz.func179, Tryz.ntmps179
  go_wp2_with fail
  go_ret
  exact ⟨rfl, rfl⟩
end Go.Proofs.YtihmkkjmnbehbaaGreat.Cl
/- A row of one-cell elements that may begin inside its block: appended to, cut at either end, read. No condition. -/
set_option linter.unusedVariables false
set_option linter.unusedSimpArgs false
namespace Go.Proofs.YtihmkkjmnbehbaaGreat.W
open Go.RowKit

/-- The slice value '.slice A n c' holds the cells xs of element type e, in a block of 'ok' (or is nil). -/
def QR (w : World) (ok : Nat → Prop) (e : TypeId) (A : Option Addr) (n c : Nat) (xs : List Value) : Prop :=
  xs.length = n ∧ n ≤ c ∧ c ≤ 9223372036854775807 ∧
    ((A = none ∧ c = 0) ∨ ∃ g off cur, A = some ⟨g, off, none⟩ ∧ ok g ∧ Blk w g e cur ∧ off + c ≤ cur.size ∧ (cur.toList.drop off).take n = xs)

section
variable {w w' : World} {ok ok' : Nat → Prop} {e : TypeId} {A : Option Addr} {n c : Nat} {xs : List Value}
theorem QR.nil (w : World) (ok : Nat → Prop) (e : TypeId) : QR w ok e none 0 0 [] := ⟨rfl, Nat.le_refl _, by omega, .inl ⟨rfl, rfl⟩⟩
theorem QR.keep (h : QR w ok e A n c xs) (hk : Keep ok' w w') (hn : ∀ i, ok i → ok' i → False) : QR w' ok e A n c xs := by
  obtain ⟨h1, h2, h3, h4⟩ := h
  refine ⟨h1, h2, h3, ?_⟩
  rcases h4 with h4 | ⟨g, off, cur, hA, hg, hb, r⟩
  · exact .inl h4
  · exact .inr ⟨g, off, cur, hA, hg, hk.blk hb (fun x => hn g hg x), r⟩
theorem QR.mono (h : QR w ok e A n c xs) (hs : ∀ i, ok i → ok' i) : QR w ok' e A n c xs := by
  obtain ⟨h1, h2, h3, h4⟩ := h
  refine ⟨h1, h2, h3, ?_⟩
  rcases h4 with h4 | ⟨g, off, cur, hA, hg, r⟩
  · exact .inl h4
  · exact .inr ⟨g, off, cur, hA, hs g hg, r⟩
theorem QR.bound (h : QR w ok e A n c xs) : QR w (fun i => ok i ∧ i < w.heap.size) e A n c xs := by
  obtain ⟨h1, h2, h3, h4⟩ := h
  refine ⟨h1, h2, h3, ?_⟩
  rcases h4 with h4 | ⟨g, off, cur, hA, hg, hb, r⟩
  · exact .inl h4
  · exact .inr ⟨g, off, cur, hA, ⟨hg, hb.lt⟩, hb, r⟩
theorem QR.ne_ {b : Nat} {t : TypeId} {cs : Array Value} (h : QR w ok e A n c xs) (hb : Blk w b t cs) (hne : e ≠ t) : QR w (fun i => ok i ∧ i ≠ b) e A n c xs := by
  obtain ⟨h1, h2, h3, h4⟩ := h
  refine ⟨h1, h2, h3, ?_⟩
  rcases h4 with h4 | ⟨g, off, cur, hA, hg, hbg, r⟩
  · exact .inl h4
  · exact .inr ⟨g, off, cur, hA, ⟨hg, hbg.ne_ hb hne⟩, hbg, r⟩
theorem QR.drewN (h : QR w ok e A n c xs) (m : Nat) : QR (w.drewN m) ok e A n c xs := h
theorem QR.alloc (h : QR w ok e A n c xs) (o : Obj) : QR (w.alloc o) ok e A n c xs := h.keep (ok' := fun _ => False) ((Keep.refl _ w).alloc o) (fun _ _ h => h)
theorem QR.far (h : QR w ok e A n c xs) {p : Addr} (hp : ¬ ok p.block) (u : Value) : QR (w.setCell p u) ok e A n c xs :=
  h.keep (ok' := fun i => i = p.block) (Keep.set_ (p := p) (Keep.refl (fun i => i = p.block) w) (.inl rfl) u) (fun i h1 h2 => hp (h2 ▸ h1))

/-- Where its elements lie, if it has one. -/
theorem QR.at_ (h : QR w ok e A n c xs) {i : Nat} (hi : i < n) : ∃ g off, A = some ⟨g, off, none⟩ ∧ ok g ∧ g < w.heap.size ∧ (∀ j, j < n → w.cell? ⟨g, off + j, none⟩ = xs[j]?) ∧ ∀ j, w.frozen? ⟨g, j, none⟩ = false := by
  obtain ⟨h1, h2, h3, h4⟩ := h
  rcases h4 with ⟨_, h0⟩ | ⟨g, off, cur, hA, hg, hb, hs, ht⟩
  · omega
  · refine ⟨g, off, hA, hg, hb.lt, fun j hj => ?_, fun j => hb.frozen j⟩
    rw [hb.cell, ← ht, List.getElem?_take, if_pos hj, List.getElem?_drop, Array.getElem?_toList]

/-- Its first one goes. -/
theorem QR.tail (h : QR w ok e A n c xs) (hn : 1 ≤ n) : QR w ok e (if c = 1 then A else A.map (·.add 1)) (n - 1) (c - 1) (xs.drop 1) := by
  obtain ⟨h1, h2, h3, h4⟩ := h
  refine ⟨by rw [List.length_drop]; omega, by omega, by omega, ?_⟩
  rcases h4 with ⟨_, h0⟩ | ⟨g, off, cur, rfl, hg, hb, hs, ht⟩
  · omega
  · refine .inr ?_
    by_cases hc : c = 1
    · rw [if_pos hc]
      have : n = 1 := by omega
      subst this
      refine ⟨g, off, cur, rfl, hg, hb, by omega, ?_⟩
      rw [← ht]
      simp
    · rw [if_neg hc]
      refine ⟨g, off + 1, cur, by simp [Addr.add_lit], hg, hb, by omega, ?_⟩
      rw [← ht, List.drop_take, List.drop_drop]

/-- Its last ones go. -/
theorem QR.take (h : QR w ok e A n c xs) {m : Nat} (hm : m ≤ n) : QR w ok e A m c (xs.take m) := by
  obtain ⟨h1, h2, h3, h4⟩ := h
  refine ⟨by rw [List.length_take]; omega, by omega, h3, ?_⟩
  rcases h4 with h4 | ⟨g, off, cur, rfl, hg, hb, hs, ht⟩
  · exact .inl h4
  · exact .inr ⟨g, off, cur, rfl, hg, hb, hs, by rw [← ht, List.take_take, Nat.min_eq_left hm]⟩

theorem QR.sl {k : IntKind} {l : List Int} (h : QR w ok e A l.length c (l.map (Value.int k))) : SL w ok k (.slice A l.length c) l := by
  refine ⟨A, c, rfl, by have := h.2.1; have := h.2.2.1; omega, fun h0 => ?_⟩
  obtain ⟨g, off, hA, hg, hlt, hc, _⟩ := h.at_ h0
  exact ⟨g, off, hA, hg, hlt, fun j hj => by rw [hc j hj]; simp [hj]⟩
end

section
variable {P : Program} {w : World}

theorem run_append_q {ok : Nat → Prop} (t ty e : TypeId) (i : TypeInfo) (z : Value) (bytes : Nat) (ht : P.underlying t = some (.slice e)) (hi : P.info? e = some i) (hz : i.zero = some z) (hs : i.size = 1) (hby : i.bytes = bytes) (hzc : z.cells.size = 1)
    {A : Option Addr} {n c : Nat} {xs : List Value} (hq : QR w ok e A n c xs) (B : Nat) (u : Value) (hcell : w.cell? ⟨B, 0, none⟩ = some u) (h1 : u.oneCell' = true) (h63 : n + 1 ≤ 9223372036854775807) (hbytes : (n + 1) * bytes ≤ 140737488355328) :
    ∃ A' c' w', (Builtin.append_ #[t, t] ty #[.slice A n c, .slice (some ⟨B, 0, none⟩) 1 1]).run P w = .ok (.slice A' (n + 1) c') w' ∧ QR w' (fun k => ok k ∨ w.heap.size ≤ k) e A' (n + 1) c' (xs ++ [u]) ∧ Keep ok w w' := by
  subst hby
  obtain ⟨q1, q2, q3, q4⟩ := hq
  have hnews : ∀ j v, [u][j]? = some v → w.cell? ((⟨B, 0, none⟩ : Addr).add j) = some v := by
    intro j v hv
    match j, hv with
    | 0, hv => simp at hv; subst hv; simpa [Addr.add] using hcell
  have hone : ∀ v ∈ [u], v.oneCell' = true := by intro v hv; simp at hv; subst hv; exact h1
  have grown : ∀ old, old < n + 1 → 
      QR (w.drew.alloc (.cells (xs.toArray ++ [u].toArray ++ Builtin.zeroCells z.cells (grownCap w (n + 1) old e - (n + 1))) e)) (fun k => ok k ∨ w.heap.size ≤ k) e (some ⟨w.heap.size, 0, none⟩) (n + 1) (grownCap w (n + 1) old e) (xs ++ [u]) ∧
      Keep ok w (w.drew.alloc (.cells (xs.toArray ++ [u].toArray ++ Builtin.zeroCells z.cells (grownCap w (n + 1) old e - (n + 1))) e)) := by
    intro old ho
    have hge := grownCap_ge w (n + 1) old e
    have hcm := grownCap_le_maxLen w (n + 1) old e (by unfold maxLen; omega)
    unfold maxLen at hcm
    refine ⟨⟨by simp [q1], hge, by omega, .inr ⟨w.heap.size, 0, _, rfl, .inr (Nat.le_refl _), Blk.new w.drew e _, ?_, ?_⟩⟩, ((Keep.refl ok w).drew).alloc _⟩
    · simp only [Array.size_append, List.size_toArray, size_zeroCells, hzc, q1, List.length_cons, List.length_nil]
      omega
    · simp only [List.drop_zero, Array.toList_append, List.append_assoc]
      rw [← List.append_assoc, show n + 1 = (xs ++ [u]).length by simp [q1]]
      exact List.take_left
  rcases q4 with ⟨rfl, rfl⟩ | ⟨g, off, cur, rfl, hg, hb, hsz, htake⟩
  · have hn : n = 0 := by omega
    subst hn
    have hx : xs = [] := List.eq_nil_of_length_eq_zero q1
    subst hx
    have hr := run_append_nil (P := P) w t ty e i z ht hi hz ⟨B, 0, none⟩ 1 1 [u] (by simp [hs]) hnews (by omega) (by omega) (by omega)
    have hgr := grown 0 (by omega)
    simp only [Nat.zero_add, List.nil_append, Array.empty_append] at hgr ⊢
    exact ⟨_, _, _, hr, hgr.1, hgr.2⟩
  · by_cases hroom : n + 1 ≤ c
    · have hst := run_storeCells_at P g (off + n) e [u] 0 cur w hb (by simp; omega) hone
      have hf := run_firstCells_some (P := P) w i.size 1 ⟨B, 0, none⟩ 1 1 [u] (by simp [hs]) hnews
      rw [hs] at hf
      have hr : (Builtin.append_ #[t, t] ty #[.slice (some ⟨g, off, none⟩) n c, .slice (some ⟨B, 0, none⟩) 1 1]).run P w =
          .ok (.slice (some ⟨g, off, none⟩) (n + 1) c) (w.setRow g (cur.toList.take (off + n) ++ [u] ++ cur.toList.drop (off + n + 1)).toArray) := by
        simp only [Nat.add_zero] at hst
        simp [Builtin.append_, run_underlying ht, sizeOf, typeInfo, hi, hs, Builtin.lenOf, hroom, hf, Addr.add_lit, hst]
      refine ⟨_, _, _, hr, ⟨by simp [q1], hroom, q3, .inr ⟨g, off, _, rfl, .inl hg, setRow_heap w g cur _ e _ hb, ?_, ?_⟩⟩, ⟨rfl, rfl, rfl, by simp [World.setRow], fun k _ hk => setRow_other w g k _ (fun e => hk (e ▸ hg))⟩⟩
      · simp only [List.size_toArray, List.length_append, List.length_take, List.length_drop, Array.length_toList, List.length_cons, List.length_nil]
        omega
      · have hl : (cur.toList.take (off + n)).length = off + n := by rw [List.length_take, Array.length_toList]; omega
        rw [List.drop_append_of_le_length (by simp [hl]; omega), List.drop_append_of_le_length (by rw [hl]; omega), List.drop_take, show off + n - off = n by omega, htake]
        rw [show n + 1 = (xs ++ [u]).length by simp [q1]]
        exact List.take_left
    · have holds : ∀ j v, xs[j]? = some v → w.cell? ((⟨g, off, none⟩ : Addr).add j) = some v := by
        intro j v hv
        have hj : j < n := by rw [← q1]; exact (List.getElem?_eq_some_iff.1 hv).1
        rw [Addr.add_lit, hb.cell]
        rw [← htake, List.getElem?_take, if_pos hj, List.getElem?_drop, Array.getElem?_toList] at hv
        exact hv
      have hr := run_append_grow (P := P) w t ty e i z ht hi hz ⟨g, off, none⟩ n c xs (by simp [hs, q1]) holds ⟨B, 0, none⟩ 1 1 [u] (by simp [hs]) hnews (by omega) (by omega) (growslice_fits (by omega) hbytes)
      have hgr := grown c (by omega)
      exact ⟨_, _, _, hr, hgr.1, hgr.2⟩

theorem wpList_append_q {ok : Nat → Prop} {ops : Array Oper} {rest : List Oper} {o : Oper} {a : Act} {Q : Exit → Act → World → Prop} (hgd : o.guard = none) (s x : Operand) (t : TypeId)
    (ho : o.op = .call { callee := .builtin .append, args := #[s, x], argTypes := #[t, t] })
    (e : TypeId) (i : TypeInfo) (z : Value) (bytes : Nat) (ht : P.underlying t = some (.slice e)) (hi : P.info? e = some i) (hz : i.zero = some z) (hs : i.size = 1) (hby : i.bytes = bytes) (hzc : z.cells.size = 1)
    (A : Option Addr) (n c : Nat) (xs : List Value) (hsv : a.eval s = .slice A n c) (hq : QR w ok e A n c xs) (B : Nat) (u : Value) (hxv : a.eval x = .slice (some ⟨B, 0, none⟩) 1 1) (hcell : w.cell? ⟨B, 0, none⟩ = some u) (h1 : u.oneCell' = true)
    (h63 : n + 1 ≤ 9223372036854775807) (hbytes : (n + 1) * bytes ≤ 140737488355328)
    (h : ∀ A' c' w', QR w' (fun k => ok k ∨ w.heap.size ≤ k) e A' (n + 1) c' (xs ++ [u]) → Keep ok w w' → wpList P ops Q rest (a.put o.dst (.slice A' (n + 1) c')) w') : wpList P ops Q (o :: rest) a w := by
  refine wpList_plain hgd fun K hK => ?_
  obtain ⟨A', c', w', hr, h2, h3⟩ := run_append_q (P := P) t o.type e i z bytes ht hi hz hs hby hzc hq B u hcell h1 h63 hbytes
  unfold Oper.wp execOp
  simp only [ho, resolve, invoke, builtin, Sem.run_bind, Sem.run_pure, Result.andThen_ok, List.map_toArray, List.map_cons, List.map_nil, hsv, hxv, hr]
  exact hK _ _ (h A' c' w' h2 h3)

/-- 's[1:]' of a slice of one-cell elements. -/
theorem run_cut1 {t e : TypeId} {i : TypeInfo} (ht : P.underlying t = some (.slice e)) (hi : P.info? e = some i) (hs : i.size = 1) (A : Option Addr) (n c : Nat) (hn : 1 ≤ n) (W : World) :
    (Instr.slice t (.slice A n c) (some (.int .i64 1)) none none).run P W = .ok (.slice (if c = 1 then A else A.map (·.add 1)) (n - 1) (c - 1)) W := by
  have hel : P.elem t = e := by simp [Program.elem, ht]
  have hu : P.underlying t = some (.slice (P.elem t)) := by rw [hel]; exact ht
  rw [run_slice_l W t A n c hu .i64 1 (by omega) (by omega), hel]
  simp [sizeOf, typeInfo, hi, hs, sliced, Result.andThen]
end
end Go.Proofs.YtihmkkjmnbehbaaGreat.W
