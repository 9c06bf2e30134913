/- Words for memory: a block that is known whole; what a call leaves as it was. No condition. -/
import Derived.WalkKit
import Derived.Below
import Derived.Deep.Draws
import Derived.Lib.Hide
import Derived.BigQuiet
import Derived.Deep.QuietTactic
import Derived.WalkLawsBesides
import Derived.WalkSpells
set_option linter.unusedVariables false
set_option linter.unusedSimpArgs false
namespace Go.Proofs.Ytjgjablmkljfoaa.W
open Go.RowKit

/-- Block g is just the cells cs of element type t, none frozen. -/
def Blk (w : World) (g : Nat) (t : TypeId) (cs : Array Value) : Prop := w.heap[g]? = some (.cells cs t (0, 0))

section
variable {w w' : World} {g : Nat} {t : TypeId} {cs : Array Value}
theorem Blk.lt (h : Blk w g t cs) : g < w.heap.size := by
  rcases Nat.lt_or_ge g w.heap.size with hlt | hge
  · exact hlt
  · unfold Blk at h; rw [Array.getElem?_eq_none hge] at h; cases h
theorem Blk.cell (h : Blk w g t cs) (i : Nat) : w.cell? ⟨g, i, none⟩ = cs[i]? := by
  unfold Blk at h
  simp [World.cell?, h]
theorem Blk.frozen (h : Blk w g t cs) (i : Nat) : w.frozen? ⟨g, i, none⟩ = false := by
  unfold Blk at h
  simp [World.frozen?, h]
theorem Blk.new (w : World) (t : TypeId) (cs : Array Value) : Blk (w.alloc (.cells cs t)) w.heap.size t cs := by
  unfold Blk World.alloc
  simp
theorem Blk.drew (h : Blk w g t cs) : Blk w.drew g t cs := h
theorem Blk.drewN (h : Blk w g t cs) (n : Nat) : Blk (w.drewN n) g t cs := h
theorem Blk.alloc (h : Blk w g t cs) (o : Obj) : Blk (w.alloc o) g t cs := (Below.heap_alloc w o g h.lt).trans h
theorem Blk.set_ (h : Blk w g t cs) (i : Nat) (u : Value) : Blk (w.setCell ⟨g, i, none⟩ u) g t (cs.setIfInBounds i u) := by
  unfold Blk at h ⊢
  simp [World.setCell, Array.getElem?_modify, h]
theorem Blk.far (h : Blk w g t cs) {p : Addr} (hp : g ≠ p.block) (u : Value) : Blk (w.setCell p u) g t cs := (Below.heap_setCell w p u g hp).trans h
theorem Blk.same (h : Blk w g t cs) (hw : w'.heap[g]? = w.heap[g]?) : Blk w' g t cs := hw.trans h
theorem Blk.ne_ {g' : Nat} {t' : TypeId} {cs' : Array Value} (h : Blk w g t cs) (h' : Blk w g' t' cs') (hne : t ≠ t') : g ≠ g' := by
  rintro rfl
  unfold Blk at h h'
  rw [h] at h'
  injection h' with h'
  injection h' with _ ht
  exact hne ht
end

/-- What a call that may write the blocks of 'ok' (and new ones) leaves as it was. -/
structure Keep (ok : Nat → Prop) (w w' : World) : Prop where
  os : w'.os = w.os
  tape : w'.tape = w.tape
  output : w'.output = w.output
  size : w.heap.size ≤ w'.heap.size
  block : ∀ k, k < w.heap.size → ¬ ok k → w'.heap[k]? = w.heap[k]?

section
variable {ok ok' : Nat → Prop} {a b c w : World}
theorem Keep.refl (ok : Nat → Prop) (w : World) : Keep ok w w := ⟨rfl, rfl, rfl, Nat.le_refl _, fun _ _ _ => rfl⟩
theorem Keep.trans (h : Keep ok a b) (k : Keep ok' b c) (hs : ∀ i, ok' i → ok i ∨ a.heap.size ≤ i) : Keep ok a c :=
  ⟨k.os.trans h.os, k.tape.trans h.tape, k.output.trans h.output, Nat.le_trans h.size k.size, fun i hi hn =>
    (k.block i (Nat.lt_of_lt_of_le hi h.size) (fun h' => (hs i h').elim hn (fun g => by omega))).trans (h.block i hi hn)⟩
theorem Keep.drew (h : Keep ok a w) : Keep ok a w.drew := ⟨h.os, h.tape, h.output, h.size, h.block⟩
theorem Keep.drewN (h : Keep ok a w) (n : Nat) : Keep ok a (w.drewN n) := ⟨h.os, h.tape, h.output, h.size, h.block⟩
theorem Keep.alloc (h : Keep ok a w) (o : Obj) : Keep ok a (w.alloc o) :=
  ⟨h.os, h.tape, h.output, Nat.le_trans h.size (by simp), fun i hi hn => (Below.heap_alloc w o i (Nat.lt_of_lt_of_le hi h.size)).trans (h.block i hi hn)⟩
theorem Keep.set_ (h : Keep ok a w) {p : Addr} (hp : ok p.block ∨ a.heap.size ≤ p.block) (u : Value) : Keep ok a (w.setCell p u) :=
  ⟨h.os, h.tape, h.output, by simpa [World.setCell] using h.size, fun i hi hn => (Below.heap_setCell w p u i (by
    rintro rfl
    rcases hp with hp | hp
    · exact hn hp
    · omega)).trans (h.block i hi hn)⟩
theorem Keep.mono (h : Keep ok a b) (hs : ∀ i, ok i → ok' i ∨ a.heap.size ≤ i) : Keep ok' a b :=
  ⟨h.os, h.tape, h.output, h.size, fun i hi hn => h.block i hi (fun h' => (hs i h').elim hn (fun g => by omega))⟩
theorem Keep.below (h : Keep ok a b) (hs : ∀ i, ok i → a.heap.size ≤ i) : Below a.heap.size a b :=
  ⟨h.os, h.tape, h.output, h.size, fun i hi => h.block i hi (fun h' => by have := hs i h'; omega)⟩
theorem Keep.of_below (h : Below a.heap.size a b) : Keep ok a b := ⟨h.os, h.tape, h.output, h.size, fun i hi _ => h.block i hi⟩
theorem Keep.of_grown {row : Option Nat} (h : a.grownBy b row) (hs : ∀ g, row = some g → ok g) : Keep ok a b :=
  ⟨h.os, h.tape, h.output, h.size, fun i hi hn => h.block i hi (fun e => hn (hs i e.symm))⟩
theorem Keep.blk {g : Nat} {t : TypeId} {cs : Array Value} (h : Keep ok a b) (hb : Blk a g t cs) (hn : ¬ ok g) : Blk b g t cs := (h.block g hb.lt hn).trans hb
end

/-- A list of whole numbers, as cells. -/
abbrev ints (l : List Int) : Array Value := (l.map (Value.int .i64)).toArray
theorem ints_get {l : List Int} {i : Nat} (h : i < l.length) : (ints l)[i]? = some (.int .i64 (l[i]?.getD 0)) := by
  simp [ints, h]
theorem ints_set (l : List Int) (i : Nat) (x : Int) : (ints l).setIfInBounds i (.int .i64 x) = ints (l.set i x) := by
  simp [ints]

/-- A slice of whole numbers that reads as a list; its cells lie in a block of 'ok'. -/
def SL (w : World) (ok : Nat → Prop) (k : IntKind) (v : Value) (l : List Int) : Prop :=
  ∃ (A : Option Addr) (c : Nat), v = .slice A l.length c ∧ l.length ≤ 9223372036854775807 ∧
    (0 < l.length → ∃ b o, A = some ⟨b, o, none⟩ ∧ ok b ∧ b < w.heap.size ∧ ∀ j, j < l.length → w.cell? ⟨b, o + j, none⟩ = some (.int k (l[j]?.getD 0)))

section
variable {w w' : World} {ok ok' : Nat → Prop} {k : IntKind} {v : Value} {l : List Int}
theorem SL.keep (h : SL w ok k v l) (hk : Keep ok' w w') (hn : ∀ i, ok i → ok' i → False) : SL w' ok k v l := by
  obtain ⟨A, c, e, hl, hc⟩ := h
  refine ⟨A, c, e, hl, fun h0 => ?_⟩
  obtain ⟨b, o, hA, hb, hlt, hcell⟩ := hc h0
  exact ⟨b, o, hA, hb, Nat.lt_of_lt_of_le hlt hk.size, fun j hj => (World.cell?_of_block (hk.block b hlt (fun h' => hn b hb h'))).trans (hcell j hj)⟩
theorem SL.mono (h : SL w ok k v l) (hs : ∀ i, ok i → ok' i) : SL w ok' k v l := by
  obtain ⟨A, c, e, hl, hc⟩ := h
  exact ⟨A, c, e, hl, fun h0 => by obtain ⟨b, o, hA, hb, r⟩ := hc h0; exact ⟨b, o, hA, hs b hb, r⟩⟩
theorem SL.drewN (h : SL w ok k v l) (n : Nat) : SL (w.drewN n) ok k v l := h
theorem SL.alloc (h : SL w ok k v l) (o : Obj) : SL (w.alloc o) ok k v l := h.keep (ok' := fun _ => False) ((Keep.refl _ w).alloc o) (fun _ _ h => h)
theorem SL.of_blk {g : Nat} {t : TypeId} {l : List Int} {c : Nat} (h : Blk w g t ((l.map (Value.int k)).toArray)) (hg : ok g) (hl : l.length ≤ 9223372036854775807) : SL w ok k (.slice (some ⟨g, 0, none⟩) l.length c) l :=
  ⟨_, _, rfl, hl, fun _ => ⟨g, 0, rfl, hg, h.lt, fun j hj => by rw [Nat.zero_add]; exact (h.cell j).trans (by simp [hj])⟩⟩
theorem SL.of_own {base : Nat} {e : TypeId} (h : w.ownsRow base e 1 v l.length (l.map (Value.int k))) (hok : ∀ i, base ≤ i → ok i) : SL w ok k v l := by
  rcases h.2 with ⟨rfl, h0⟩ | ⟨g, cap, cur, rfl, hb, hg, hn, hcap, hcs, htake⟩
  · have : l = [] := List.eq_nil_of_length_eq_zero h0
    subst this
    exact ⟨none, 0, rfl, by simp, fun h => by simp at h⟩
  · refine ⟨_, _, rfl, by unfold maxLen at hcap; omega, fun _ => ⟨g, 0, rfl, hok g hb, ?_, fun j hj => ?_⟩⟩
    · exact (Array.getElem?_eq_some_iff.1 hg).1
    · have := h.cells (g := g) rfl j (.int k (l[j]?.getD 0)) (by simp [hj])
      simpa [Addr.add_lit] using this
end

/-- Block g begins with the cells xs (there may be more behind them), none frozen. -/
def Pre (w : World) (g : Nat) (t : TypeId) (xs : List Value) : Prop := ∃ cs : Array Value, Blk w g t cs ∧ xs.length ≤ cs.size ∧ cs.toList.take xs.length = xs

section
variable {w w' : World} {g : Nat} {t : TypeId} {xs : List Value}
theorem Pre.lt (h : Pre w g t xs) : g < w.heap.size := by obtain ⟨cs, hb, _⟩ := h; exact hb.lt
theorem Pre.cell (h : Pre w g t xs) {i : Nat} (hi : i < xs.length) : w.cell? ⟨g, i, none⟩ = xs[i]? := by
  obtain ⟨cs, hb, hl, ht⟩ := h
  rw [hb.cell, ← ht, List.getElem?_take, if_pos hi, Array.getElem?_toList]
theorem Pre.frozen (h : Pre w g t xs) (i : Nat) : w.frozen? ⟨g, i, none⟩ = false := by obtain ⟨cs, hb, _⟩ := h; exact hb.frozen i
theorem Pre.set_ (h : Pre w g t xs) (i : Nat) (hi : i < xs.length) (u : Value) : Pre (w.setCell ⟨g, i, none⟩ u) g t (xs.set i u) := by
  obtain ⟨cs, hb, hl, ht⟩ := h
  refine ⟨_, hb.set_ i u, by simpa using hl, ?_⟩
  rw [List.length_set, Array.toList_setIfInBounds, List.take_set, ht]
theorem Pre.far (h : Pre w g t xs) {p : Addr} (hp : g ≠ p.block) (u : Value) : Pre (w.setCell p u) g t xs := by
  obtain ⟨cs, hb, hl, ht⟩ := h
  exact ⟨cs, hb.far hp u, hl, ht⟩
theorem Pre.alloc (h : Pre w g t xs) (o : Obj) : Pre (w.alloc o) g t xs := by
  obtain ⟨cs, hb, hl, ht⟩ := h
  exact ⟨cs, hb.alloc o, hl, ht⟩
theorem Pre.drewN (h : Pre w g t xs) (n : Nat) : Pre (w.drewN n) g t xs := h
theorem Pre.keep {ok : Nat → Prop} (h : Pre w g t xs) (hk : Keep ok w w') (hn : ¬ ok g) : Pre w' g t xs := by
  obtain ⟨cs, hb, hl, ht⟩ := h
  exact ⟨cs, hk.blk hb hn, hl, ht⟩
theorem Pre.of_blk {cs : Array Value} (h : Blk w g t cs) : Pre w g t cs.toList := ⟨cs, h, by simp, by simp [List.take_of_length_le]⟩
theorem Pre.of_own {base n cap : Nat} (h : w.ownsRow base t 1 (.slice (some ⟨g, 0, none⟩) n cap) n xs) : Pre w g t xs := by
  have hx := h.1
  rcases h.2 with ⟨h', _⟩ | ⟨g', cap', cur, h', _, hg, hn, _, hcs, htake⟩
  · simp at h'
  · simp only [Value.slice.injEq, Option.some.injEq, Addr.mk.injEq, and_true, true_and] at h'
    obtain ⟨rfl, rfl⟩ := h'
    exact ⟨cur, hg, by omega, by rw [hx]; exact htake⟩
end

/-- 'make([]T, n)' of one-cell elements: the run, as one equation. -/
theorem run_mk {P : Program} {t e : TypeId} {i : TypeInfo} {z : Value} (ht : P.underlying t = some (.slice e)) (hi : P.info? e = some i) (hz : i.zero = some z) (hs : i.size = 1) (hzc : z.cells = #[z])
    (n : Int) (h0 : 0 ≤ n) (hb : (i.bytes : Int) * n ≤ 281474976710656) (h63 : n ≤ 9223372036854775807) (w : World) :
    (Instr.makeSlice t (.int .i64 n) (.int .i64 n)).run P w = .ok (.slice (some ⟨w.heap.size, 0, none⟩) n.toNat n.toNat) (w.alloc (.cells (List.replicate n.toNat z).toArray e)) := by
  rw [run_make w t e i z ht hi hz .i64 .i64 n n h0 (Int.le_refl _) hb h63, hs, Nat.mul_one, hzc]
  have : madeCells #[z] n.toNat = (List.replicate n.toNat z).toArray := by
    rw [← toList_madeCells_one z n.toNat]
  rw [this]
end Go.Proofs.Ytjgjablmkljfoaa.W
