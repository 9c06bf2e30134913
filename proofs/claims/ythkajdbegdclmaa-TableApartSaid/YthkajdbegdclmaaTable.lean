/- Contracts of package table over a predicate on memory. No condition. -/
import Derived.Test.YthkajdbegdclmaaProg
import Derived.Test.YthkajdbegdclmaaMem
import Derived.Test.YthkajdbegdclmaaSmall
import Derived.Outline
set_option linter.unusedVariables false
set_option linter.unusedSimpArgs false
namespace Go.Proofs.Ythkajdbegdclmaa.Tab
open Go.RowKit Go.Proofs.Ythkajdbegdclmaa.W Go.Proofs.Ythkajdbegdclmaa.Sm

/-- Clone of a slice that is a whole block: new memory. -/
theorem Clone_calls {L : List Int} {g : Nat} (w : World) (hl : L.length ≤ 1048576) (hg : Blk w g 3 (ints L)) :
    Calls Try.prog 28 #[.slice (some ⟨g, 0, none⟩) L.length L.length] w fun e w' =>
      ∃ A c, e = .returned (.slice A L.length c) ∧ L.length ≤ c ∧ w'.ownsRow w.heap.size 3 1 (.slice A L.length c) L.length (L.map (Value.int .i64)) ∧ Keep (fun _ => False) w w' := by
  obtain ⟨i, hi, hz, hs, hb⟩ := info_parts info_int
  have hnil := fun (W : World) => Lib.run_eql_slice_nil (P := Try.prog) W 33 3 (some ⟨g, 0, none⟩) L.length L.length 0 0 Try.underlying33
  have hglt := hg.lt
  go_enter Try.func28, Try.ntmps28
  go_wp2_with (at_builtin; refine wpList_append_own _ rfl _ _ 33 rfl w.heap.size 3 i (.int .i64 0) 1 8 Try.underlying33 hi hz hs hb rfl (by decide) _ 0 [] rfl ?c0 ⟨g, 0, none⟩ L.length L.length (L.map (Value.int .i64)) rfl ?c1 ?c2 ?c3 ?c4 ?c5 ?c6 ?_)
  case c0 => exact World.ownsRow_lit w #[] 0 (Nat.le_refl _) (by unfold maxLen; omega) (by simp)
  case c1 => simp
  case c2 =>
    intro j u hu
    have hj : j < L.length := by
      rcases Nat.lt_or_ge j L.length with h | h
      · exact h
      · rw [List.getElem?_eq_none (by simpa using h)] at hu; cases hu
    rw [Addr.add_lit, Nat.zero_add]
    have h1 : Blk (w.alloc (.cells #[] 3)) g 3 (ints L) := hg.alloc _
    rw [h1.cell j]
    simpa using hu
  case c3 => intro u hu; simp at hu; obtain ⟨x, _, rfl⟩ := hu; rfl
  case c4 => unfold maxLen; omega
  case c5 => omega
  case c6 => simp
  intro v' w1 hown hgrow _
  obtain ⟨A, c, hv, hlc⟩ : ∃ A c, v' = .slice A L.length c ∧ L.length ≤ c := by
    rcases hown.2 with ⟨h, h0⟩ | ⟨g', cap, cur, h, _, _, h2, _⟩
    · exact ⟨none, 0, by rw [h, show L.length = 0 by omega], by omega⟩
    · exact ⟨_, cap, h, h2⟩
  subst hv
  go_wp2
  go_ret
  refine ⟨A, c, rfl, hlc, by simpa using hown, ?_⟩
  exact ((Keep.refl _ w).alloc _).trans (Keep.of_grown (ok := fun i => w.heap.size ≤ i) hgrow (by intro g h; simp [Value.ownBlock] at h; omega)) (fun i h => .inr h)

theorem Clip_calls {A : Option Addr} {n c : Nat} (w : World) (h : n ≤ c) (hn : n ≤ 9223372036854775807) :
    Calls Try.prog 27 #[.slice A n c] w fun e w' => e = .returned (.slice A n n) ∧ w = w' := by
  go_enter Try.func27, Try.ntmps27
  go_wp2
  go_ret
  exact ⟨rfl, rfl⟩

/-- Handles: block b is a Table that holds L. -/
def TRep (w : World) (ok : Nat → Prop) (b : Nat) (L : List Int) : Prop :=
  ∃ g, ok b ∧ ok g ∧ L.length ≤ 64 ∧ Blk w b 46 #[.slice (some ⟨g, 0, none⟩) L.length L.length] ∧ Blk w g 3 (ints L)

theorem TRep.keep {w w' : World} {ok ok' : Nat → Prop} {b : Nat} {L : List Int} (h : TRep w ok b L) (hk : Keep ok' w w') (hn : ∀ i, ok i → ok' i → False) : TRep w' ok b L := by
  obtain ⟨g, ob, og, hl, hb, hg⟩ := h
  exact ⟨g, ob, og, hl, hk.blk hb (fun x => hn _ ob x), hk.blk hg (fun x => hn _ og x)⟩
theorem TRep.mono {w : World} {ok ok' : Nat → Prop} {b : Nat} {L : List Int} (h : TRep w ok b L) (hs : ∀ i, ok i → ok' i) : TRep w ok' b L := by
  obtain ⟨g, ob, og, r⟩ := h
  exact ⟨g, hs _ ob, hs _ og, r⟩

def gets (L : List Int) (h : Int) : Int × Int := if 0 ≤ h ∧ h < L.length then (L[h.toNat]?.getD 0, 0) else (0, 3)

theorem Get_calls {ok : Nat → Prop} {b : Nat} {L : List Int} (h : Int) (w : World) (hr : TRep w ok b L) :
    Calls Try.prog 22 #[.pointer (some ⟨b, 0, none⟩), .int .i64 h] w fun e w' => e = .returned (.tuple #[.int .i64 (gets L h).1, .int .i64 (gets L h).2]) ∧ w = w' := by
  obtain ⟨g, _, _, hl, hb, hg⟩ := hr
  have c0 := hb.cell 0
  simp at c0
  by_cases h0 : h < 0
  · have e : gets L h = (0, 3) := by unfold gets; rw [if_neg (by omega)]
    rw [e]
    clear e
    go_enter Try.func22, Try.ntmps22
    go_wp2
    go_ret2
    exact ⟨rfl, rfl⟩
  · by_cases h1 : h < L.length
    · have e : gets L h = (L[h.toNat]?.getD 0, 0) := by unfold gets; rw [if_pos (by omega)]
      have c1 : w.cell? ⟨g, h.toNat, none⟩ = some (.int .i64 (L[h.toNat]?.getD 0)) := (hg.cell _).trans (ints_get (by omega))
      rw [e]
      clear e
      go_enter Try.func22, Try.ntmps22
      go_wp2
      go_ret2
      exact ⟨rfl, rfl⟩
    · have e : gets L h = (0, 3) := by unfold gets; rw [if_neg (by omega)]
      rw [e]
      clear e
      go_enter Try.func22, Try.ntmps22
      go_wp2
      go_ret2
      exact ⟨rfl, rfl⟩

def sets (L : List Int) (h x : Int) : List Int := if 0 ≤ h ∧ h < L.length then L.set h.toNat x else L
def setE (L : List Int) (h : Int) : Int := if 0 ≤ h ∧ h < L.length then 0 else 3
theorem sets_length (L : List Int) (h x : Int) : (sets L h x).length = L.length := by unfold sets; split <;> simp

theorem Set_calls {ok : Nat → Prop} {b : Nat} {L : List Int} (h x : Int) (w : World) (hr : TRep w ok b L) :
    Calls Try.prog 23 #[.pointer (some ⟨b, 0, none⟩), .int .i64 h, .int .i64 x] w fun e w' =>
      e = .returned (.int .i64 (setE L h)) ∧ TRep w' ok b (sets L h x) ∧ Keep ok w w' := by
  unfold setE sets
  have hr' := hr
  obtain ⟨g, ob, og, hl, hb, hg⟩ := hr
  have c0 := hb.cell 0
  simp at c0
  by_cases h0 : h < 0
  · rw [if_neg (by omega), if_neg (by omega)]
    go_enter Try.func23, Try.ntmps23
    go_wp2
    go_ret
    exact ⟨rfl, hr', Keep.refl _ _⟩
  · by_cases h1 : h < L.length
    · have c1 : w.cell? ⟨g, h.toNat, none⟩ = some (.int .i64 (L[h.toNat]?.getD 0)) := (hg.cell _).trans (ints_get (by omega))
      have f1 := hg.frozen h.toNat
      have T : TRep (w.setCell ⟨g, h.toNat, none⟩ (.int .i64 x)) ok b (L.set h.toNat x) :=
        ⟨g, ob, og, by simpa using hl, by rw [List.length_set]; exact hb.far (p := ⟨g, h.toNat, none⟩) (hb.ne_ hg (by decide)) _, by rw [← ints_set]; exact hg.set_ _ _⟩
      rw [if_pos ⟨by omega, h1⟩, if_pos ⟨by omega, h1⟩]
      go_enter Try.func23, Try.ntmps23
      go_wp2
      go_ret
      exact ⟨rfl, T, (Keep.refl _ _).set_ (.inl og) _⟩
    · rw [if_neg (by omega), if_neg (by omega)]
      go_enter Try.func23, Try.ntmps23
      go_wp2
      go_ret
      exact ⟨rfl, hr', Keep.refl _ _⟩

/-- How many handles there are of any number that is asked for. -/
def newN (n : Int) : Nat := if n < 0 then 0 else if 64 < n then 64 else n.toNat
theorem New_calls (n : Int) (w : World) :
    Calls Try.prog 20 #[.int .i64 n] w fun e w' => ∃ b, e = .returned (.pointer (some ⟨b, 0, none⟩)) ∧ TRep w' (fun i => w.heap.size ≤ i) b (List.replicate (newN n) 0) ∧ Keep (fun _ => False) w w' := by
  obtain ⟨i, hi, hz, hs, hb⟩ := info_parts info_int
  obtain ⟨m, hm⟩ : ∃ m, (if 64 < n then 64 else n) = m := ⟨_, rfl⟩
  obtain ⟨c, hc⟩ : ∃ c, (if 0 < m then m else 0) = c := ⟨_, rfl⟩
  have c0 : 0 ≤ c := by rw [← hc]; split <;> omega
  have c1 : c ≤ 64 := by rw [← hc, ← hm]; (repeat' split) <;> omega
  have e : newN n = c.toNat := by unfold newN; rw [← hc, ← hm]; (repeat' split) <;> omega
  rw [e]
  clear e
  have hmk := fun W => run_mk (P := Try.prog) Try.underlying33 hi hz hs rfl c c0 (by rw [hb]; omega) (by omega) W
  clear hi hz hs hb
  go_enter Try.func20, Try.ntmps20
  go_wp2
  go_ret
  refine ⟨_, rfl, ⟨w.heap.size, by simp, by simp, by simpa using c1, ?_, ?_⟩, ((Keep.refl _ _).alloc _).alloc _⟩
  · simpa using Blk.new (w.alloc (.cells (List.replicate c.toNat (Value.int .i64 0)).toArray 3)) 46 #[.slice (some ⟨w.heap.size, 0, none⟩) c.toNat c.toNat]
  · simpa [ints] using (Blk.new w 3 (List.replicate c.toNat (Value.int .i64 0)).toArray).alloc (.cells #[.slice (some ⟨w.heap.size, 0, none⟩) c.toNat c.toNat] 46)

theorem All_calls {ok : Nat → Prop} {b : Nat} {L : List Int} (w : World) (hr : TRep w ok b L) :
    Calls Try.prog 25 #[.pointer (some ⟨b, 0, none⟩)] w fun e w' => ∃ A, e = .returned (.slice A L.length L.length) ∧ SL w' (fun i => w.heap.size ≤ i) .i64 (.slice A L.length L.length) L ∧ Keep (fun _ => False) w w' := by
  obtain ⟨g, _, _, hl, hb, hg⟩ := hr
  have c0 := hb.cell 0
  simp at c0
  go_enter Try.func25, Try.ntmps25
  go_wp2_with fail
  refine (Clone_calls w (by omega) hg).mono ?_
  rintro e w1 ⟨A, c, rfl, hlc, hown, hk⟩
  go_wp2_with fail
  refine (Clip_calls w1 hlc (by omega)).mono ?_
  rintro e w2 ⟨rfl, rfl⟩
  go_wp2_with fail
  go_ret
  refine ⟨A, rfl, ?_, hk⟩
  obtain ⟨A', c', e, h1, h2⟩ := SL.of_own (ok := fun i => w.heap.size ≤ i) (k := .i64) hown (fun i h => h)
  simp only [Value.slice.injEq] at e
  obtain ⟨rfl, _, rfl⟩ := e
  exact ⟨A, L.length, rfl, h1, h2⟩

/-- What is told of all is in new memory of its own. -/
theorem All_pre {ok : Nat → Prop} {b : Nat} {L : List Int} (w : World) (hr : TRep w ok b L) (h0 : 0 < L.length) :
    Calls Try.prog 25 #[.pointer (some ⟨b, 0, none⟩)] w fun e w' => ∃ g, e = .returned (.slice (some ⟨g, 0, none⟩) L.length L.length) ∧ w.heap.size ≤ g ∧ Pre w' g 3 (L.map (Value.int .i64)) ∧ Keep (fun _ => False) w w' := by
  obtain ⟨g, _, _, hl, hb, hg⟩ := hr
  have c0 := hb.cell 0
  simp at c0
  go_enter Try.func25, Try.ntmps25
  go_wp2_with fail
  refine (Clone_calls w (by omega) hg).mono ?_
  rintro e w1 ⟨A, c, rfl, hlc, hown, hk⟩
  go_wp2_with fail
  refine (Clip_calls w1 hlc (by omega)).mono ?_
  rintro e w2 ⟨rfl, rfl⟩
  go_wp2_with fail
  go_ret
  rcases hown.2 with ⟨h', h1⟩ | ⟨g', cap', cur, h', hb', _⟩
  · omega
  · simp only [Value.slice.injEq, Option.some.injEq, true_and] at h'
    obtain ⟨rfl, rfl⟩ := h'
    exact ⟨g', rfl, hb', Pre.of_own hown, hk⟩
end Go.Proofs.Ythkajdbegdclmaa.Tab
