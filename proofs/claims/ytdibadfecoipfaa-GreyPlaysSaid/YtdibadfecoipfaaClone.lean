/- Contracts of slices.Clone and slices.Clip of []int. Condition: the slice is a whole block. -/
import Derived.Test.YtdibadfecoipfaaSmall
set_option linter.unusedVariables false
set_option linter.unusedSimpArgs false
namespace Go.Proofs.Ytdibadfecoipfaa.Sm
open Go.RowKit Go.Proofs.Ytdibadfecoipfaa.W

/-- Clone of a slice that is a whole block: new memory. -/
theorem Clone_calls {L : List Int} {g : Nat} (w : World) (hl : L.length ≤ 1048576) (hg : Blk w g 3 (ints L)) :
    Calls Try.prog 30 #[.slice (some ⟨g, 0, none⟩) L.length L.length] w fun e w' =>
      ∃ A c, e = .returned (.slice A L.length c) ∧ L.length ≤ c ∧ w'.ownsRow w.heap.size 3 1 (.slice A L.length c) L.length (L.map (Value.int .i64)) ∧ Keep (fun _ => False) w w' := by
  obtain ⟨i, hi, hz, hs, hb⟩ := info_parts info_int
  have hnil := fun (W : World) => Lib.run_eql_slice_nil (P := Try.prog) W 22 3 (some ⟨g, 0, none⟩) L.length L.length 0 0 Try.underlying22
  have hglt := hg.lt
  go_enter Try.func30, Try.ntmps30
  go_wp2_with (at_builtin; refine wpList_append_own _ rfl _ _ 22 rfl w.heap.size 3 i (.int .i64 0) 1 8 Try.underlying22 hi hz hs hb rfl (by decide) _ 0 [] rfl ?c0 ⟨g, 0, none⟩ L.length L.length (L.map (Value.int .i64)) rfl ?c1 ?c2 ?c3 ?c4 ?c5 ?c6 ?_)
  case c0 => exact World.ownsRow_lit w #[] 0 (Nat.le_refl _) (by unfold maxLen; omega) (by simp)
  case c1 => simp
  case c2 =>
    intro j u hu
    have hj : j < L.length := by
      rcases Nat.lt_or_ge j L.length with h | h
      · exact h
      · rw [List.getElem?_eq_none (by simpa using h)] at hu; cases hu
    rw [Addr.add_lit, Nat.zero_add]
    have h1 : Blk (w.alloc (.cells #[] 3)) g 3 (ints L) := hg.alloc _
    rw [h1.cell j]
    simpa using hu
  case c3 => intro u hu; simp at hu; obtain ⟨x, _, rfl⟩ := hu; rfl
  case c4 => unfold maxLen; omega
  case c5 => omega
  case c6 => simp
  intro v' w1 hown hgrow _
  obtain ⟨A, c, hv, hlc⟩ : ∃ A c, v' = .slice A L.length c ∧ L.length ≤ c := by
    rcases hown.2 with ⟨h, h0⟩ | ⟨g', cap, cur, h, _, _, h2, _⟩
    · exact ⟨none, 0, by rw [h, show L.length = 0 by omega], by omega⟩
    · exact ⟨_, cap, h, h2⟩
  subst hv
  go_wp2
  go_ret
  refine ⟨A, c, rfl, hlc, by simpa using hown, ?_⟩
  exact ((Keep.refl _ w).alloc _).trans (Keep.of_grown (ok := fun i => w.heap.size ≤ i) hgrow (by intro g h; simp [Value.ownBlock] at h; omega)) (fun i h => .inr h)

theorem Clip_calls {A : Option Addr} {n c : Nat} (w : World) (h : n ≤ c) (hn : n ≤ 9223372036854775807) :
    Calls Try.prog 29 #[.slice A n c] w fun e w' => e = .returned (.slice A n n) ∧ w = w' := by
  go_enter Try.func29, Try.ntmps29
  go_wp2
  go_ret
  exact ⟨rfl, rfl⟩

end Go.Proofs.Ytdibadfecoipfaa.Sm
