/- Contracts of small functions that many laws use: Ints of two lists. No condition. -/
import Derived.Test.YtjgjablmkljfoaaProg
import Derived.Test.YtjgjablmkljfoaaMem
import Derived.Outline
set_option linter.unusedVariables false
set_option linter.unusedSimpArgs false
namespace Go.Proofs.Ytjgjablmkljfoaa.Sm
open Go.RowKit Go.Proofs.Ytjgjablmkljfoaa.W

theorem info_int : (Try.prog.info? 3).map (fun i => (i.zero, i.size, i.bytes)) = some (some (.int .i64 0), 1, 8) := by kernel_rfl

theorem take_next {α : Type} {l l' : List α} {k : Nat} (d : α) (h : l.take k = l'.take k) (h1 : k < l.length) (h2 : k < l'.length) (e : l[k]?.getD d = l'[k]?.getD d) : l.take (k + 1) = l'.take (k + 1) := by
  rw [List.take_add_one, List.take_add_one, h]
  congr 1
  simp [h1, h2] at e ⊢
  exact e
theorem ne_at {α : Type} {l l' : List α} {k : Nat} (d : α) (e : ¬ l[k]?.getD d = l'[k]?.getD d) : l ≠ l' := by
  rintro rfl; exact e rfl

set_option maxHeartbeats 1000000 in
theorem Ints_calls {ok ok' : Nat → Prop} {l l' : List Int} {v v' : Value} (w : World) (h : SL w ok .i64 v l) (h' : SL w ok' .i64 v' l') :
    Calls Try.prog 43 #[v, v'] w fun e w' => e = .returned (.bool (decide (l = l'))) ∧ ∃ n, w' = w.drewN n := by
  obtain ⟨A, c, rfl, hl, hc⟩ := h
  obtain ⟨A', c', rfl, hl', hc'⟩ := h'
  by_cases hlen : l.length = l'.length
  · obtain ⟨r, hr⟩ : ∃ r, decide (l = l') = r := ⟨_, rfl⟩
    rw [hr]
    have HR := Lib.hid hr
    clear hr
    rw [← hlen]
    rw [← hlen] at hc' hl'
    have HLEN := Lib.hid hlen
    clear hlen
    have HC := Lib.hid hc
    have HC' := Lib.hid hc'
    clear hc hc'
    go_enter Try.func43, Try.ntmps43
    go_wp2
    go_loopw [5] (fun i wr => ∃ k : Nat, k ≤ l.length ∧ i = .int .i64 k ∧ l.take k = l'.take k ∧ ∃ n, wr = w.drewN n) (fun i _ => l.length - (intOf i).toNat)
    case atStart => exact ⟨0, Nat.zero_le _, rfl, rfl, 0, rfl⟩
    case round =>
      obtain ⟨k, hk, rfl, htake, n, rfl⟩ := hrel
      have HT := Lib.hid htake
      clear htake
      by_cases hlt : k < l.length
      · obtain ⟨b, o, rfl, _, _, hcell⟩ := HC.out (by omega)
        obtain ⟨b', o', rfl, _, _, hcell'⟩ := HC'.out (by omega)
        have c1 : w.cell? ⟨b, o + k, none⟩ = some (.int .i64 (l[k]?.getD 0)) := hcell k hlt
        have c2 : w.cell? ⟨b', o' + k, none⟩ = some (.int .i64 (l'[k]?.getD 0)) := hcell' k hlt
        have ha : ∀ x y : Nat, (Addr.mk x y none).add k = ⟨x, y + k, none⟩ := fun x y => Addr.add_lit _ _ _
        clear hcell hcell'
        have hlk : k < l'.length := by rw [← HLEN.out]; exact hlt
        obtain ⟨x, hx⟩ : ∃ x, l[k]?.getD 0 = x := ⟨_, rfl⟩
        obtain ⟨y, hy⟩ : ∃ y, l'[k]?.getD 0 = y := ⟨_, rfl⟩
        rw [hx] at c1
        rw [hy] at c2
        have HX := Lib.hid hx
        have HY := Lib.hid hy
        clear hx hy
        by_cases hxy : x = y
        · have hb : (x != y) = false := by simp [hxy]
          have HE := Lib.hid hxy
          clear hxy
          go_wp2
          go_quiet (fail)
          go_wp2
          go_roundw
          case rel => exact ⟨k + 1, by omega, by go_num, take_next 0 HT.out hlt hlk (by rw [HX.out, HY.out, HE.out]), _, rfl⟩
          case measure => simp [intOf]; omega
        · have hb : (x != y) = true := by simp [hxy]
          have hne : l ≠ l' := ne_at (k := k) 0 (by rw [HX.out, HY.out]; exact hxy)
          have hr : r = false := by rw [← HR.out]; simp [hne]
          subst hr
          clear hne hxy
          go_wp2
          go_quiet (fail)
          go_wp2
          go_ret
          exact ⟨rfl, _, World.drewN_drewN _ _ _⟩
      · have hk' : k = l.length := by omega
        have heq : l = l' := by
          have h1 := HT.out
          rw [List.take_of_length_le (by omega), List.take_of_length_le (by rw [← HLEN.out]; omega)] at h1
          exact h1
        have hr : r = true := by rw [← HR.out]; simp [heq]
        subst hr
        clear heq hk' HT HR
        go_wp2
        go_ret
        exact ⟨rfl, _, rfl⟩
  · have hb : ((l.length : Int) != (l'.length : Int)) = true := by rw [bne_iff_ne]; omega
    have hr : decide (l = l') = false := by
      rw [decide_eq_false_iff_not]; rintro rfl; exact hlen rfl
    rw [hr]
    clear hr hlen hc hc'
    go_enter Try.func43, Try.ntmps43
    go_wp2
    go_ret
    exact ⟨rfl, 0, rfl⟩
end Go.Proofs.Ytjgjablmkljfoaa.Sm
