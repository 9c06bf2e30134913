/- A graph, in plain Lean: nodes by their numbers, what handles hold, and what a step comes to. No condition. -/
import Derived.Test.YtoldhaomacnigaaStructs
set_option linter.unusedVariables false
set_option linter.unusedSimpArgs false
namespace Go.Proofs.Ytoldhaomacnigaa.Gr
open Go.RowKit Go.Proofs.Ytoldhaomacnigaa.W

/-- A node: numbers of nodes from 1 on (0: none), and words. -/
structure GN where
  refs : List Nat
  scal : List Int
/-- A graph. -/
structure GS where
  nodes : List GN
  hs : List Nat
  largest : Nat
/-- An answer. -/
structure GA where
  e : Int
  yes : Bool
  n : Int
  v : Int
deriving DecidableEq
def err (e : Int) : GA := ⟨e, false, 0, 0⟩
def GN.ok (N : Nat) (x : GN) : Prop := (∀ r ∈ x.refs, r ≤ N) ∧ (∀ v ∈ x.scal, 0 ≤ v ∧ v ≤ 18446744073709551615) ∧ x.refs.length + x.scal.length ≤ 64
structure GS.ok (s : GS) : Prop where
  node : ∀ x ∈ s.nodes, x.ok s.nodes.length
  hs : ∀ h ∈ s.hs, h ≤ s.nodes.length
  hlen : s.hs.length ≤ 64
  lar : s.largest ≤ 64
def clamp64 (n : Int) : Nat := if n < 0 then 0 else if 64 < n then 64 else n.toNat
def gnew (handles largest : Int) : GS := ⟨[], List.replicate (clamp64 handles) 0, clamp64 largest⟩
theorem clamp64_le (n : Int) : clamp64 n ≤ 64 := by unfold clamp64; (repeat' split) <;> omega
theorem gnew_ok (h l : Int) : (gnew h l).ok := by
  refine ⟨by simp [gnew], fun x hx => ?_, by simp [gnew, clamp64_le], by simp [gnew, clamp64_le]⟩
  simp [gnew] at hx ⊢
  omega
def has (s : GS) (h : Int) : Bool := decide (0 ≤ h) && decide (h < s.hs.length)
/-- What a handle holds: a node's number; 0 of none, or where there is no such handle. -/
def held (s : GS) (h : Int) : Nat := s.hs[h.toNat]?.getD 0
def wrong (s : GS) (h : Int) : Int := if has s h then (if held s h = 0 then 4 else 0) else 3
/-- A node, by its number. -/
def nod (s : GS) (i : Nat) : GN := s.nodes[i - 1]?.getD ⟨[], []⟩
def inL (n : Int) (l : Nat) : Bool := decide (0 ≤ n) && decide (n < l)
def setN (s : GS) (i : Nat) (x : GN) : List GN := s.nodes.set (i - 1) x
def fits (s : GS) (b c : Int) : Bool := decide (0 ≤ b) && (decide (0 ≤ c) && decide (b + c ≤ s.largest))

def gmake (s : GS) (a b c : Int) : Int × GS :=
  if has s a then (if fits s b c then (0, { s with nodes := s.nodes ++ [⟨List.replicate b.toNat 0, List.replicate c.toNat 0⟩], hs := s.hs.set a.toNat (s.nodes.length + 1) }) else (6, s)) else (3, s)
def gget (s : GS) (to h n : Int) : Int × GS :=
  if wrong s h = 0 then (if has s to then (if inL n (nod s (held s h)).refs.length then (0, { s with hs := s.hs.set to.toNat ((nod s (held s h)).refs[n.toNat]?.getD 0) }) else (5, s)) else (3, s)) else (wrong s h, s)
def gset (s : GS) (h n fr : Int) : Int × GS :=
  if wrong s h = 0 then (if has s fr then (if inL n (nod s (held s h)).refs.length then (0, { s with nodes := setN s (held s h) ⟨(nod s (held s h)).refs.set n.toNat (held s fr), (nod s (held s h)).scal⟩ }) else (5, s)) else (3, s)) else (wrong s h, s)
def gwrite (s : GS) (h n v : Int) : Int × GS :=
  if wrong s h = 0 then (if inL n (nod s (held s h)).scal.length then (0, { s with nodes := setN s (held s h) ⟨(nod s (held s h)).refs, (nod s (held s h)).scal.set n.toNat v⟩ }) else (5, s)) else (wrong s h, s)
def gclear (s : GS) (h : Int) : Int × GS := if has s h then (0, { s with hs := s.hs.set h.toNat 0 }) else (3, s)
def gcopy (s : GS) (to fr : Int) : Int × GS := if has s fr && has s to then (0, { s with hs := s.hs.set to.toNat (held s fr) }) else (3, s)
def gread (s : GS) (h n : Int) : GA := if wrong s h = 0 then (if inL n (nod s (held s h)).scal.length then ⟨0, false, 0, (nod s (held s h)).scal[n.toNat]?.getD 0⟩ else err 5) else err (wrong s h)
def gsame (s : GS) (a b : Int) : GA := if has s a && has s b then ⟨0, decide (held s a = held s b), 0, 0⟩ else err 3
def gnil (s : GS) (a : Int) : GA := if has s a then ⟨0, decide (held s a = 0), 0, 0⟩ else err 3
def gshape (s : GS) (a : Int) : GA := if wrong s a = 0 then ⟨0, false, (nod s (held s a)).refs.length, (nod s (held s a)).scal.length⟩ else err (wrong s a)
def gidle (a : Int) : GA := if a = 0 ∨ a = 1 then err 0 else err 1
def ans (r : Int × GS) : GA × GS := (err r.1, r.2)
/-- What a step comes to. -/
def gdo (s : GS) (x : A5) : GA × GS :=
  if x.kind = 1 then ans (gmake s x.a x.b x.c)
  else if x.kind = 2 then ans (gget s x.a x.b x.c)
  else if x.kind = 3 then ans (gset s x.a x.b x.c)
  else if x.kind = 4 then (gread s x.a x.b, s)
  else if x.kind = 5 then ans (gwrite s x.a x.b x.v)
  else if x.kind = 6 then ans (gclear s x.a)
  else if x.kind = 7 then ans (gcopy s x.a x.b)
  else if x.kind = 8 then (gsame s x.a x.b, s)
  else if x.kind = 9 then (gnil s x.a, s)
  else if x.kind = 10 then (gshape s x.a, s)
  else if x.kind = 11 ∨ x.kind = 12 then (gidle x.a, s)
  else (err 1, s)
theorem has_iff (s : GS) (h : Int) : has s h = true ↔ 0 ≤ h ∧ h < s.hs.length := by unfold has; simp
theorem inL_iff (n : Int) (l : Nat) : inL n l = true ↔ 0 ≤ n ∧ n < l := by unfold inL; simp
theorem held_le {s : GS} (hs : s.ok) (h : Int) : held s h ≤ s.nodes.length := by
  unfold held
  cases he : s.hs[h.toNat]? with
  | none => simp
  | some x => exact hs.hs x (List.mem_of_getElem? he)
theorem wrong_0 {s : GS} {h : Int} (hw : wrong s h = 0) : has s h = true ∧ held s h ≠ 0 := by
  unfold wrong at hw
  cases hh : has s h
  · rw [hh] at hw; simp at hw
  · rw [hh] at hw
    simp at hw
    refine ⟨rfl, fun h0 => ?_⟩
    simp [h0] at hw
theorem wrong_cases (s : GS) (h : Int) : (has s h = false ∧ wrong s h = 3) ∨ (has s h = true ∧ held s h = 0 ∧ wrong s h = 4) ∨ (has s h = true ∧ held s h ≠ 0 ∧ wrong s h = 0) := by
  unfold wrong
  cases has s h
  · exact .inl ⟨rfl, rfl⟩
  · by_cases h0 : held s h = 0
    · exact .inr (.inl ⟨rfl, h0, by simp [h0]⟩)
    · exact .inr (.inr ⟨rfl, h0, by simp [h0]⟩)
theorem nod_at {s : GS} (hs : s.ok) {i : Nat} (h0 : i ≠ 0) (h1 : i ≤ s.nodes.length) : s.nodes[i - 1]? = some (nod s i) ∧ (nod s i).ok s.nodes.length := by
  have e : s.nodes[i - 1]? = some (s.nodes[i - 1]'(by omega)) := List.getElem?_eq_getElem (by omega)
  have e2 : nod s i = s.nodes[i - 1]'(by omega) := by unfold nod; rw [e]; rfl
  exact ⟨by rw [e, e2], by rw [e2]; exact hs.node _ (List.getElem_mem _)⟩
theorem GN.ok.mono {x : GN} {N M : Nat} (h : x.ok N) (hm : N ≤ M) : x.ok M := ⟨fun r hr => Nat.le_trans (h.1 r hr) hm, h.2⟩
theorem mem_set {α : Type} {l : List α} {i : Nat} {a x : α} (h : x ∈ l.set i a) : x = a ∨ x ∈ l := (List.mem_or_eq_of_mem_set h).symm
theorem set_hs {s : GS} (hs : s.ok) (i : Nat) {x : Nat} (hx : x ≤ s.nodes.length) : ({ s with hs := s.hs.set i x } : GS).ok :=
  ⟨hs.node, fun h hh => (mem_set hh).elim (fun e => e ▸ hx) (hs.hs h), by simpa using hs.hlen, hs.lar⟩
theorem set_node {s : GS} (hs : s.ok) (i : Nat) {x : GN} (hx : x.ok s.nodes.length) : ({ s with nodes := setN s i x } : GS).ok :=
  ⟨fun y hy => by
    have e : (setN s i x).length = s.nodes.length := by simp [setN]
    show y.ok (setN s i x).length
    rw [e]
    exact (mem_set hy).elim (fun e => e ▸ hx) (hs.node y),
   fun h hh => by
    have e : (setN s i x).length = s.nodes.length := by simp [setN]
    show h ≤ (setN s i x).length
    rw [e]; exact hs.hs h hh, hs.hlen, hs.lar⟩
theorem gmake_ok {s : GS} (hs : s.ok) (a b c : Int) : (gmake s a b c).2.ok := by
  unfold gmake
  split
  · split
    · rename_i hf
      unfold fits at hf
      simp at hf
      have := hs.lar
      refine ⟨fun x hx => ?_, fun h hh => ?_, by simpa using hs.hlen, hs.lar⟩
      · simp at hx ⊢
        rcases hx with hx | rfl
        · exact (hs.node x hx).mono (by omega)
        · exact ⟨fun r hr => by simp at hr; omega, fun v hv => by simp at hv; omega, by simp; omega⟩
      · simp at hh ⊢
        rcases mem_set hh with rfl | hh
        · omega
        · have := hs.hs h hh; omega
    · exact hs
  · exact hs
theorem gget_ok {s : GS} (hs : s.ok) (a b c : Int) : (gget s a b c).2.ok := by
  unfold gget
  split
  · rename_i hw
    split
    · split
      · refine set_hs hs _ ?_
        obtain ⟨_, h0⟩ := wrong_0 hw
        have hn := (nod_at hs h0 (held_le hs b)).2
        cases he : (nod s (held s b)).refs[c.toNat]? with
        | none => simp
        | some x => exact hn.1 x (List.mem_of_getElem? he)
      · exact hs
    · exact hs
  · exact hs
theorem gset_ok {s : GS} (hs : s.ok) (a b c : Int) : (gset s a b c).2.ok := by
  unfold gset
  split
  · rename_i hw
    split
    · split
      · obtain ⟨_, h0⟩ := wrong_0 hw
        have hn := (nod_at hs h0 (held_le hs a)).2
        refine set_node hs _ ⟨fun r hr => ?_, hn.2.1, by simpa using hn.2.2⟩
        rcases mem_set hr with rfl | hr
        · exact held_le hs c
        · exact hn.1 r hr
      · exact hs
    · exact hs
  · exact hs
theorem gwrite_ok {s : GS} (hs : s.ok) (a b v : Int) (hv : 0 ≤ v ∧ v ≤ 18446744073709551615) : (gwrite s a b v).2.ok := by
  unfold gwrite
  split
  · rename_i hw
    split
    · obtain ⟨_, h0⟩ := wrong_0 hw
      have hn := (nod_at hs h0 (held_le hs a)).2
      refine set_node hs _ ⟨hn.1, fun r hr => ?_, by simpa using hn.2.2⟩
      rcases mem_set hr with rfl | hr
      · exact hv
      · exact hn.2.1 r hr
    · exact hs
  · exact hs
theorem gdo_ok {s : GS} (hs : s.ok) (x : A5) (hx : x.wf) : (gdo s x).2.ok := by
  unfold gdo
  (repeat' split)
  · exact gmake_ok hs _ _ _
  · exact gget_ok hs _ _ _
  · exact gset_ok hs _ _ _
  · exact hs
  · exact gwrite_ok hs _ _ _ hx.2.2.2.2
  · unfold ans gclear; split
    · exact set_hs hs _ (Nat.zero_le _)
    · exact hs
  · unfold ans gcopy; split
    · exact set_hs hs _ (held_le hs _)
    · exact hs
  all_goals exact hs
theorem gdo_len (s : GS) (x : A5) : (gdo s x).2.hs.length = s.hs.length ∧ (gdo s x).2.nodes.length ≤ s.nodes.length + 1 ∧ (gdo s x).2.largest = s.largest := by
  unfold gdo
  (repeat' split) <;> simp [ans, gmake, gget, gset, gwrite, gclear, gcopy, setN] <;> (repeat' split) <;> simp

/-- Those of a list that are met for the first time. -/
def meetL (out : List Nat) : List Nat → List Nat
  | [] => out
  | x :: r => meetL (if x = 0 ∨ x ∈ out then out else out ++ [x]) r
def bfs (s : GS) : Nat → Nat → List Nat → List Nat
  | 0, _, out => out
  | f + 1, n, out => match out[n]? with
    | none => out
    | some x => bfs s f (n + 1) (meetL out (nod s x).refs)
/-- All that handles come to, in the order in which they are met. -/
def live (s : GS) : List Nat := bfs s s.nodes.length 0 (meetL [] s.hs)
/-- Where a node stands, from 1 on. -/
def num (o : List Nat) (x : Nat) : Nat := if x ∈ o then o.idxOf x + 1 else 0
def shown (s : GS) : List (List Int × List Int) := (live s).map fun x => ((nod s x).refs.map (fun r => ((num (live s) r : Nat) : Int)), (nod s x).scal)
def helds (s : GS) : List Int := s.hs.map fun r => ((num (live s) r : Nat) : Int)
def words (s : GS) : Nat := ((live s).map fun x => (nod s x).refs.length + (nod s x).scal.length + 2).sum
/-- Numbers of nodes, none twice. -/
structure OutOk (N : Nat) (out : List Nat) : Prop where
  nd : out.Nodup
  pos : ∀ x ∈ out, x ≠ 0
  le : ∀ x ∈ out, x ≤ N
theorem OutOk.len {N : Nat} {out : List Nat} (h : OutOk N out) : out.length ≤ N := by
  have h1 : out ⊆ (List.range N).map (· + 1) := fun x hx => by
    have := h.pos x hx
    have := h.le x hx
    simp
    exact ⟨x - 1, by omega, by omega⟩
  have h2 := (List.nodup_iff_count.1 h.nd)
  have := h.nd.length_le_of_subset h1
  simpa using this
theorem OutOk.add {N : Nat} {out : List Nat} (h : OutOk N out) {x : Nat} (h0 : x ≠ 0) (h1 : x ≤ N) (h2 : x ∉ out) : OutOk N (out ++ [x]) := by
  refine ⟨?_, ?_, ?_⟩
  · rw [List.nodup_append]
    exact ⟨h.nd, by simp, fun a ha b hb => by simp at hb; subst hb; rintro rfl; exact h2 ha⟩
  · intro y hy
    simp at hy
    rcases hy with hy | rfl
    · exact h.pos y hy
    · exact h0
  · intro y hy
    simp at hy
    rcases hy with hy | rfl
    · exact h.le y hy
    · exact h1
theorem OutOk.meet {N : Nat} {l : List Nat} : ∀ {out : List Nat}, OutOk N out → (∀ x ∈ l, x ≤ N) → OutOk N (meetL out l) := by
  induction l with
  | nil => intro out h _; exact h
  | cons x r ih =>
    intro out h hl
    unfold meetL
    refine ih ?_ (fun y hy => hl y (List.mem_cons_of_mem _ hy))
    split
    · exact h
    · rename_i hx
      simp at hx
      exact h.add hx.1 (hl x List.mem_cons_self) hx.2
theorem OutOk.nil (N : Nat) : OutOk N [] := ⟨by simp, by simp, by simp⟩
theorem meet_take {l : List Nat} {k : Nat} (hk : k < l.length) (out : List Nat) : meetL out (l.take (k + 1)) = (if l[k] = 0 ∨ l[k] ∈ meetL out (l.take k) then meetL out (l.take k) else meetL out (l.take k) ++ [l[k]]) := by
  induction l generalizing out k with
  | nil => simp at hk
  | cons x r ih =>
    cases k with
    | zero => simp [meetL]
    | succ k =>
      simp at hk
      rw [List.take_succ_cons, List.take_succ_cons]
      unfold meetL
      rw [ih hk]
      simp
theorem meet_pre {l : List Nat} : ∀ out : List Nat, ∃ m, meetL out l = out ++ m := by
  induction l with
  | nil => intro out; exact ⟨[], by simp [meetL]⟩
  | cons x r ih =>
    intro out
    unfold meetL
    split
    · exact ih out
    · obtain ⟨m, hm⟩ := ih (out ++ [x])
      exact ⟨x :: m, by rw [hm]; simp⟩
theorem live_ok {s : GS} (hs : s.ok) : OutOk s.nodes.length (live s) := by
  have key : ∀ f n out, OutOk s.nodes.length out → OutOk s.nodes.length (bfs s f n out) := by
    intro f
    induction f with
    | zero => intro n out h; exact h
    | succ f ih =>
      intro n out h
      unfold bfs
      cases ho : out[n]? with
      | none => exact h
      | some x =>
        have hm := List.mem_of_getElem? ho
        exact ih _ _ (h.meet (nod_at hs (h.pos x hm) (h.le x hm)).2.1)
  exact key _ _ _ ((OutOk.nil _).meet hs.hs)
end Go.Proofs.Ytoldhaomacnigaa.Gr
