/- Contracts of the reference's graph: at, Live. No condition. -/
import Derived.Test.YtoldhaomacnigaaRgE
import Derived.Deep.LoopGhost
set_option linter.unusedVariables false
set_option linter.unusedSimpArgs false
namespace Go.Proofs.Ytoldhaomacnigaa.Rg
open Go.RowKit Go.Proofs.Ytoldhaomacnigaa.W Go.Proofs.Ytoldhaomacnigaa Go.Proofs.Ytoldhaomacnigaa.Gr
theorem idx_first {out : List Nat} {x j : Nat} (hj : j < out.length) (hx : out[j] = x) (hn : x ∉ out.take j) : out.idxOf x = j := by
  induction out generalizing j with
  | nil => simp at hj
  | cons y r ih =>
    cases j with
    | zero => simp at hx; simp [List.idxOf_cons, hx]
    | succ j =>
      simp at hx hj
      rw [List.take_succ_cons] at hn
      simp at hn
      have hb : (y == x) = false := by simp; exact fun h => hn.1 h.symm
      rw [List.idxOf_cons, hb]
      simp only [cond_false]
      rw [ih hj hx hn.2]
theorem at_calls {ok : Nat → Prop} {v : Value} {out : List Nat} (x : Nat) (w : World) (h : SL w ok .i64 v (out.map (fun (y : Nat) => (y : Int)))) :
    Calls Try.prog 35 #[v, .int .i64 x] w fun e w' => e = .returned (.int .i64 (num out x)) ∧ w = w' := by
  obtain ⟨A, c, rfl, hl, hc⟩ := h
  rw [List.length_map] at hl hc ⊢
  obtain ⟨R, hR⟩ : ∃ R, num out x = R := ⟨_, rfl⟩
  rw [hR]
  have HR := Lib.hid hR
  have HC := Lib.hid hc
  clear hR hc
  go_enter Try.func35, Try.ntmps35
  go_wp2_with fail
  go_loopg [5] out.length (fun gk z wr => ∃ j : Nat, j + gk = out.length ∧ z = .int .i64 j ∧ x ∉ out.take j ∧ w = wr)
  case atStart => exact ⟨0, by omega, rfl, by simp, rfl⟩
  case round =>
    obtain ⟨j, hj, rfl, hn, rfl⟩ := hrel
    have HJ := Lib.hid hj
    have hjl : j ≤ out.length := by omega
    have HN := Lib.hid hn
    clear hj hn
    by_cases hlt : j < out.length
    · obtain ⟨b, o, rfl, _, _, d⟩ := HC.out (by omega)
      have e := d j hlt
      rw [show (out.map (fun (y : Nat) => (y : Int)))[j]?.getD 0 = ((out[j] : Nat) : Int) from by simp [hlt]] at e
      clear d
      obtain ⟨y, hy⟩ : ∃ y, out[j] = y := ⟨_, rfl⟩
      rw [hy] at e
      by_cases hyx : y = x
      · have hres : R = j + 1 := by
          rw [← HR.out]
          unfold num
          subst hyx
          rw [if_pos (by rw [← hy]; exact List.getElem_mem _), idx_first hlt hy HN.out]
        subst hyx
        have HRE := Lib.hid hres
        clear hres hy
        go_wp2_with fail
        go_ret
        exact ⟨by rw [HRE.out]; rfl, rfl⟩
      · have hb : ((y : Int) == (x : Int)) = false := by simp; omega
        have hn2 : x ∉ out.take (j + 1) := by
          rw [List.take_succ_eq_append_getElem hlt, hy]
          simp only [List.mem_append, List.mem_singleton, not_or]
          exact ⟨HN.out, fun h => hyx h.symm⟩
        have HN2 := Lib.hid hn2
        clear hn2 hyx hy
        go_wp2_with fail
        go_roundg (gk - 1)
        case measure => have := HJ.out; omega
        case rel => exact ⟨j + 1, by have := HJ.out; omega, by go_num, HN2.out, rfl⟩
    · have hres : R = 0 := by
        rw [← HR.out]
        have := HN.out
        rw [List.take_of_length_le (by omega)] at this
        unfold num
        rw [if_neg this]
      subst hres
      go_wp2_with fail
      go_ret
      exact ⟨rfl, rfl⟩
/-- Which nodes were met. -/
def metL (N : Nat) (out : List Nat) : List Bool := (List.range (N + 1)).map fun x => decide (x = 0 ∨ x ∈ out)
def bls (l : List Bool) : Array Value := (l.map Value.bool).toArray
theorem metL_get {N x : Nat} {out : List Nat} (hx : x ≤ N) : (bls (metL N out))[x]? = some (.bool (decide (x = 0 ∨ x ∈ out))) := by
  simp [bls, metL, List.getElem?_range, show x < N + 1 by omega]
theorem metL_set {N x : Nat} {out : List Nat} (hx : x ≤ N) : (bls (metL N out)).setIfInBounds x (.bool true) = bls (metL N (out ++ [x])) := by
  unfold bls
  rw [List.setIfInBounds_toArray]
  congr 1
  apply List.ext_getElem?
  intro i
  rw [List.getElem?_set]
  by_cases hi : x = i
  · subst hi
    simp [metL, List.getElem?_range, show x < N + 1 by omega]
  · rw [if_neg hi]
    unfold metL
    simp only [List.getElem?_map]
    rcases Nat.lt_or_ge i (N + 1) with h | h
    · rw [List.getElem?_range h]
      have : ¬ i = x := fun e => hi e.symm
      simp [this]
    · rw [List.getElem?_eq_none (by simpa using h)]; rfl
theorem metL_start (N : Nat) : ((List.replicate (N + 1) (Value.bool false)).toArray).setIfInBounds 0 (.bool true) = bls (metL N []) := by
  unfold bls
  rw [List.setIfInBounds_toArray]
  congr 1
  apply List.ext_getElem?
  intro i
  rw [List.getElem?_set]
  unfold metL
  simp only [List.getElem?_map, List.getElem?_replicate]
  rcases Nat.lt_or_ge i (N + 1) with h | h
  · rw [List.getElem?_range h]
    by_cases hi : 0 = i
    · subst hi; simp
    · rw [if_neg hi, if_pos h]; simp; omega
  · rw [List.getElem?_eq_none (by simpa using h), if_neg (by omega), if_neg (by omega)]; rfl
theorem info_bool : (Try.prog.info? 4).map (fun i => (i.zero, i.size, i.bytes)) = some (some (.bool false), 1, 1) := by kernel_rfl
theorem nats_sl {out : List Nat} : nats out = (out.map (fun (y : Nat) => (y : Int))).map (Value.int .i64) := by simp [nats]
section
variable {W w : World} {oo : Nat → Prop} {g : Nat} {s : GS} {k : RK} {N : RL}
/-- What the walk of Live holds beside the graph. -/
abbrev lvr (Mt n : Nat) (A : Option Addr) (c : Nat) (out : List Nat) : List Pr := [blkP Mt 4 (bls (metL n out)), rowP 3 A out.length c (nats out)]
theorem lvr_out {Mt : Nat} {A : Option Addr} {c : Nat} {out : List Nat} {L : List Pr} (h : SepO W oo w (L ++ lvr Mt N.length A c out)) {i : Nat} (hi : i < out.length) : ∃ G off, A = some ⟨G, off, none⟩ ∧ w.cell? ⟨G, off + i, none⟩ = some (.int .i64 ((out[i]'hi : Nat) : Int)) ∧ out.length ≤ c := by
  obtain ⟨o, hq, _⟩ := h.row (L.length + 1) (e := 3) (A := A) (n := out.length) (c := c) (xs := nats out) (by simp)
  obtain ⟨G, off, hA, _, _, hc, _⟩ := hq.at_ hi
  exact ⟨G, off, hA, by rw [hc i hi, nats_get hi]; simp [hi], hq.2.1⟩
end
end Go.Proofs.Ytoldhaomacnigaa.Rg
