/- Contracts of package graph: New; what is met. No condition. -/
import Derived.Test.YtoldhaomacnigaaGrE
import Derived.Deep.LoopGhost
set_option linter.unusedVariables false
set_option linter.unusedSimpArgs false
namespace Go.Proofs.Ytoldhaomacnigaa.Gr
open Go.RowKit Go.Proofs.Ytoldhaomacnigaa.W
section
variable {W w : World} {oo : Nat → Prop} {l : List Pr}
theorem New_sep (n m : Int) (h : SepO W oo w l) : Calls Try.prog 9 #[.int .i64 n, .int .i64 m] w fun e w' => ∃ g, e = .returned (pt g) ∧ SepO W oo w' (l ++ [Gph g (gnew n m)]) := by
  obtain ⟨i, hi, hz, hs, hb⟩ := info_parts info_node
  obtain ⟨n', hn'⟩ : ∃ m, (if 64 < n then 64 else n) = m := ⟨_, rfl⟩
  obtain ⟨c, hc⟩ : ∃ c, (if 0 < n' then n' else 0) = c := ⟨_, rfl⟩
  obtain ⟨m', hm'⟩ : ∃ d, (if 64 < m then 64 else m) = d := ⟨_, rfl⟩
  obtain ⟨d, hd⟩ : ∃ d, (if 0 < m' then m' else 0) = d := ⟨_, rfl⟩
  have c0 : 0 ≤ c := by rw [← hc]; (repeat' split) <;> omega
  have c1 : c ≤ 64 := by rw [← hc, ← hn']; (repeat' split) <;> omega
  have e1 : clamp64 n = c.toNat := by unfold clamp64; rw [← hc, ← hn']; (repeat' split) <;> omega
  have e2 : ((clamp64 m : Nat) : Int) = d := by unfold clamp64; rw [← hd, ← hm']; (repeat' split) <;> omega
  have hmk := fun W => run_mk (P := Try.prog) Try.underlying49 hi hz hs rfl c c0 (by rw [hb]; omega) (by omega) W
  have hok := gnew_ok n m
  have H0 := Lib.hid h
  have E1 := Lib.hid e1
  have E2 := Lib.hid e2
  clear hi hz hs hb h e1 e2
  go_enter Try.func9, Try.ntmps9
  go_wp2_with fail
  go_ret
  refine ⟨_, rfl, ?_⟩
  have h2 := (((Sep.nil w).new_blk 59 (List.replicate c.toNat (Value.pointer none)).toArray).new_blk 51 #[slv w.heap.size c.toNat, .int .i64 d])
  have h3 := (h2.pick [1, 0] (by decide)).leave
  have hp : (Gph (w.heap.size + 1) (gnew n m)).p ((w.alloc (.cells (List.replicate c.toNat (Value.pointer none)).toArray 59)).alloc (.cells #[slv w.heap.size c.toNat, .int .i64 d] 51)) (fun i => w.heap.size ≤ i) := by
    refine ⟨(w.heap.size, []), ⟨hok, rfl⟩, ?_⟩
    have e : gparts (w.heap.size + 1) w.heap.size (gnew n m).largest (gnew n m).hs [] = [blkP (w.heap.size + 1) 51 #[slv w.heap.size c.toNat, .int .i64 d], blkP w.heap.size 59 (List.replicate c.toNat (Value.pointer none)).toArray] := by
      simp [gparts, gnew, E1.out, E2.out, pvs, pv, bk, penc]
    simp only [e]
    have h4 := (sepP _).mono h3 (o' := fun i => w.heap.size ≤ i) (fun i h => h.elim (fun h => False.elim h) id)
    simpa using h4
  have hk : Keep (fun _ => False) w ((w.alloc (.cells (List.replicate c.toNat (Value.pointer none)).toArray 59)).alloc (.cells #[slv w.heap.size c.toNat, .int .i64 d] 51)) := ((Keep.refl _ _).alloc _).alloc _
  simpa using H0.out.add hk hp
/-- Where nodes stand, as a map. -/
def atl (N : NL) (out : List Nat) (k : Nat) : List (Option Nat × Value) := match out with
  | [] => []
  | x :: r => (bk N x, .int .i64 k) :: atl N r (k + 1)
theorem atl_app (N : NL) (x : Nat) : ∀ (out : List Nat) (k : Nat), atl N (out ++ [x]) k = atl N out k ++ [(bk N x, .int .i64 ((k + out.length : Nat) : Int))]
  | [], k => by simp [atl]
  | y :: r, k => by
    simp only [List.cons_append, atl, atl_app N x r (k + 1), List.length_cons]
    rw [show k + 1 + r.length = k + (r.length + 1) by omega]
theorem atl_get {N : NL} (hi : ∀ i j, i ≤ N.length → j ≤ N.length → bk N i = bk N j → i = j) {x : Nat} (hx : x ≤ N.length) : ∀ (out : List Nat) (k : Nat), (∀ y ∈ out, y ≤ N.length) → mget (atl N out k) (bk N x) = if x ∈ out then some (.int .i64 ((k + out.idxOf x : Nat) : Int)) else none
  | [], k, _ => by simp [atl, mget]
  | y :: r, k, hl => by
    unfold atl mget
    have hy := hl y List.mem_cons_self
    by_cases e : x = y
    · subst e; simp
    · have hb : bk N x ≠ bk N y := fun h => e (hi _ _ hx hy h)
      rw [if_neg hb, atl_get hi hx r (k + 1) (fun z hz => hl z (List.mem_cons_of_mem _ hz))]
      have e' : ¬ y = x := fun h => e h.symm
      by_cases hm : x ∈ r
      · rw [if_pos hm, if_pos (List.mem_cons_of_mem _ hm), List.idxOf_cons]
        have hb2 : (y == x) = false := by simpa using e'
        simp only [hb2, cond_false]
        rw [show k + 1 + r.idxOf x = k + (r.idxOf x + 1) by omega]
      · rw [if_neg hm, if_neg (by simp [e, hm])]
theorem mput_new {κ : Type} [DecidableEq κ] {al : List (κ × Value)} {k : κ} (h : mget al k = none) (v : Value) : mput al k v = al ++ [(k, v)] := by
  induction al with
  | nil => rfl
  | cons p r ih =>
    unfold mget at h
    split at h
    · cases h
    · rename_i hk
      simp [mput, hk, ih h]
theorem atl_pok {N : NL} {w : World} (h : ∀ i, pok w (bk N i)) : ∀ (out : List Nat) (k : Nat), ∀ p ∈ atl N out k, pok w p.1
  | [], k => by simp [atl]
  | y :: r, k => by
    intro p hp
    unfold atl at hp
    rcases List.mem_cons.1 hp with rfl | hp
    · exact h y
    · exact atl_pok h r (k + 1) p hp
end
end Go.Proofs.Ytoldhaomacnigaa.Gr
