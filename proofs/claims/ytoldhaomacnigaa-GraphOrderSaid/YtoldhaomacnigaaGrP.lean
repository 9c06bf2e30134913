/- GraphOrder as a contract. Condition: the list reads as a list. -/
import Derived.Test.YtoldhaomacnigaaGrM
set_option linter.unusedVariables false
set_option linter.unusedSimpArgs false
namespace Go.Proofs.Ytoldhaomacnigaa.Gr
open Go.RowKit Go.Proofs.Ytoldhaomacnigaa.W Go.Proofs.Ytoldhaomacnigaa Go.Proofs.Ytoldhaomacnigaa.Sm
theorem bfs_pre (s : GS) : ∀ (f n : Nat) (out : List Nat), ∃ m, bfs s f n out = out ++ m
  | 0, n, out => ⟨[], by simp [bfs]⟩
  | f + 1, n, out => by
    unfold bfs
    cases out[n]? with
    | none => exact ⟨[], by simp⟩
    | some x =>
      obtain ⟨m1, h1⟩ := meet_pre (l := (nod s x).refs) out
      obtain ⟨m2, h2⟩ := bfs_pre s f (n + 1) (meetL out (nod s x).refs)
      exact ⟨m1 ++ m2, by simp only []; rw [h2, h1, List.append_assoc]⟩
theorem num_pre {R cur m : List Nat} {x : Nat} (hR : R = cur ++ m) (hx : x ∈ cur) : num R x = cur.idxOf x + 1 ∧ cur.idxOf x < cur.length := by
  have h1 : x ∈ R := by rw [hR]; exact List.mem_append_left _ hx
  unfold num
  rw [if_pos h1, hR, List.idxOf_append, if_pos hx]
  exact ⟨rfl, List.idxOf_lt_length_of_mem hx⟩
/-- One more of a list is looked at. -/
theorem ord_step {N : Nat} {R out L : List Nat} {k x : Nat} (hok : OutOk N R) (hp : ∃ m, R = meetL out L ++ m) (hk : k < L.length) (hx : L[k] = x) :
    num R x ≤ (meetL out (L.take k)).length + 1 ∧ (num R x = (meetL out (L.take k)).length + 1 → (meetL out (L.take (k + 1))).length = (meetL out (L.take k)).length + 1) ∧ (num R x ≠ (meetL out (L.take k)).length + 1 → (meetL out (L.take (k + 1))).length = (meetL out (L.take k)).length) := by
  have hstep := meet_take hk out
  rw [hx] at hstep
  have hpre : ∃ m, R = meetL out (L.take (k + 1)) ++ m := by
    obtain ⟨m, hm⟩ := hp
    have h1 : ∀ (A B out : List Nat), meetL out (A ++ B) = meetL (meetL out A) B := by
      intro A B
      induction A with
      | nil => intro out; rfl
      | cons y r ih => intro out; simp only [List.cons_append, meetL]; exact ih _
    have h2 : meetL out L = meetL (meetL out (L.take (k + 1))) (L.drop (k + 1)) := by rw [← h1, List.take_append_drop]
    obtain ⟨m2, hm2⟩ := meet_pre (l := L.drop (k + 1)) (meetL out (L.take (k + 1)))
    exact ⟨m2 ++ m, by rw [hm, h2, hm2, List.append_assoc]⟩
  by_cases h0 : x = 0
  · subst h0
    rw [if_pos (.inl rfl)] at hstep
    have hn : num R 0 = 0 := by unfold num; rw [if_neg (fun h => hok.pos 0 h rfl)]
    rw [hstep, hn]
    exact ⟨by omega, fun h => by omega, fun _ => rfl⟩
  · by_cases hm : x ∈ meetL out (L.take k)
    · rw [if_pos (.inr hm)] at hstep
      obtain ⟨m, hm2⟩ := hpre
      rw [hstep] at hm2
      obtain ⟨h1, h2⟩ := num_pre hm2 hm
      rw [hstep, h1]
      exact ⟨by omega, fun h => by omega, fun _ => rfl⟩
    · rw [if_neg (fun h => h.elim h0 hm)] at hstep
      obtain ⟨m, hm2⟩ := hpre
      have h3 : x ∈ meetL out (L.take (k + 1)) := by rw [hstep]; simp
      obtain ⟨h1, h2⟩ := num_pre hm2 h3
      have h4 : (meetL out (L.take (k + 1))).idxOf x = (meetL out (L.take k)).length := by
        rw [hstep, List.idxOf_append, if_neg hm]; simp
      rw [h1, h4, hstep]
      exact ⟨by omega, fun _ => by simp, fun h => absurd rfl h⟩
/-- How far the nodes are met ahead of the i-th one. -/
def OrdAt (s : GS) (R : List Nat) (i : Nat) (out : List Nat) : Prop := ∃ f, f + i = s.nodes.length ∧ bfs s f i out = R ∧ i ≤ out.length ∧ OutOk s.nodes.length out
theorem ord_start {s : GS} (hs : s.ok) : OrdAt s (live s) 0 (meetL [] s.hs) := ⟨_, rfl, rfl, Nat.zero_le _, (OutOk.nil _).meet hs.hs⟩
theorem OrdAt.pre {s : GS} {R out : List Nat} {i : Nat} (h : OrdAt s R i out) : ∃ m, R = out ++ m := by
  obtain ⟨f, _, h2, _⟩ := h
  obtain ⟨m, hm⟩ := bfs_pre s f i out
  exact ⟨m, h2.symm.trans hm⟩
theorem OrdAt.next {s : GS} (hs : s.ok) {R out : List Nat} {i : Nat} (h : OrdAt s R i out) (hi : i < R.length) : OrdAt s R (i + 1) (meetL out (nod s R[i]).refs) := by
  have hp := h.pre
  obtain ⟨f, h1, h2, h3, h4⟩ := h
  have hio : i < out.length := by
    rcases Nat.lt_or_ge i out.length with hl | hg
    · exact hl
    · exfalso
      have hn : out[i]? = none := List.getElem?_eq_none (by omega)
      have hR : out = R := by
        cases f with
        | zero => exact h2
        | succ f => unfold bfs at h2; rw [hn] at h2; exact h2
      rw [← hR] at hi
      omega
  have hol := h4.len
  obtain ⟨f', rfl⟩ : ∃ f', f = f' + 1 := ⟨f - 1, by omega⟩
  have hx : out[i]? = some (out[i]) := List.getElem?_eq_getElem hio
  unfold bfs at h2
  rw [hx] at h2
  simp only [] at h2
  have hxe : R[i] = out[i] := by
    obtain ⟨m, hm⟩ := hp
    subst hm
    rw [List.getElem_append_left hio]
  have hxm : out[i] ∈ out := List.getElem_mem _
  have hok2 := h4.meet (nod_at hs (h4.pos _ hxm) (h4.le _ hxm)).2.1
  obtain ⟨m, hm⟩ := meet_pre (l := (nod s out[i]).refs) out
  rw [hxe]
  exact ⟨f', by omega, h2, by rw [hm, List.length_append]; omega, hok2⟩
theorem OrdAt.done {s : GS} {R out : List Nat} (h : OrdAt s R R.length out) : out = R := by
  obtain ⟨m, hm⟩ := h.pre
  obtain ⟨f, _, _, h3, _⟩ := h
  have : m = [] := by
    have := congrArg List.length hm
    simp at this
    exact List.eq_nil_of_length_eq_zero (by omega)
  rw [hm, this, List.append_nil]
/-- What is said of a list of numbers that are told: each is at most one more than all ahead. -/
theorem ord_list {s : GS} (hs : s.ok) {R out : List Nat} (hR : R = live s) (L : List Nat) (hp : ∃ m, R = meetL out L ++ m) (k : Nat) (hk : k < L.length) :
    ∃ y : Nat, (L.map (fun r => ((num R r : Nat) : Int)))[k]?.getD 0 = (y : Int) ∧ y ≤ (meetL out (L.take k)).length + 1 ∧ (y = (meetL out (L.take k)).length + 1 → (meetL out (L.take (k + 1))).length = (meetL out (L.take k)).length + 1) ∧ (y ≠ (meetL out (L.take k)).length + 1 → (meetL out (L.take (k + 1))).length = (meetL out (L.take k)).length) := by
  have hok := live_ok hs
  rw [← hR] at hok
  refine ⟨num R L[k], by simp [hk], ?_⟩
  exact ord_step hok hp hk rfl
end Go.Proofs.Ytoldhaomacnigaa.Gr
