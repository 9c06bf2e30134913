/- Texts of the whole heap, joined: GrPure WqG. No condition beside those that each lemma names. -/
import Derived.Test.YtihmkkjmnbehbaaGreatMg15
import Derived.Test.YtihmkkjmnbehbaaGreatMg26
/- A graph, in plain Lean: nodes by their numbers, what handles hold, and what a step comes to. No condition. -/
set_option linter.unusedVariables false
set_option linter.unusedSimpArgs false
namespace Go.Proofs.YtihmkkjmnbehbaaGreat.Gr
open Go.RowKit Go.Proofs.YtihmkkjmnbehbaaGreat.W

/-- A node: numbers of nodes from 1 on (0: none), and words. -/
structure GN where
  refs : List Nat
  scal : List Int
/-- A graph. -/
structure GS where
  nodes : List GN
  hs : List Nat
  largest : Nat
/-- An answer. -/
structure GA where
  e : Int
  yes : Bool
  n : Int
  v : Int
deriving DecidableEq
def err (e : Int) : GA := ⟨e, false, 0, 0⟩
def GN.ok (N : Nat) (x : GN) : Prop := (∀ r ∈ x.refs, r ≤ N) ∧ (∀ v ∈ x.scal, 0 ≤ v ∧ v ≤ 18446744073709551615) ∧ x.refs.length + x.scal.length ≤ 64
structure GS.ok (s : GS) : Prop where
  node : ∀ x ∈ s.nodes, x.ok s.nodes.length
  hs : ∀ h ∈ s.hs, h ≤ s.nodes.length
  hlen : s.hs.length ≤ 64
  lar : s.largest ≤ 64
def clamp64 (n : Int) : Nat := if n < 0 then 0 else if 64 < n then 64 else n.toNat
def gnew (handles largest : Int) : GS := ⟨[], List.replicate (clamp64 handles) 0, clamp64 largest⟩
theorem clamp64_le (n : Int) : clamp64 n ≤ 64 := by unfold clamp64; (repeat' split) <;> omega
theorem gnew_ok (h l : Int) : (gnew h l).ok := by
  refine ⟨by simp [gnew], fun x hx => ?_, by simp [gnew, clamp64_le], by simp [gnew, clamp64_le]⟩
  simp [gnew] at hx ⊢
  omega
def has (s : GS) (h : Int) : Bool := decide (0 ≤ h) && decide (h < s.hs.length)
/-- What a handle holds: a node's number; 0 of none, or where there is no such handle. -/
def held (s : GS) (h : Int) : Nat := s.hs[h.toNat]?.getD 0
def wrong (s : GS) (h : Int) : Int := if has s h then (if held s h = 0 then 4 else 0) else 3
/-- A node, by its number. -/
def nod (s : GS) (i : Nat) : GN := s.nodes[i - 1]?.getD ⟨[], []⟩
def inL (n : Int) (l : Nat) : Bool := decide (0 ≤ n) && decide (n < l)
def setN (s : GS) (i : Nat) (x : GN) : List GN := s.nodes.set (i - 1) x
def fits (s : GS) (b c : Int) : Bool := decide (0 ≤ b) && (decide (0 ≤ c) && decide (b + c ≤ s.largest))

def gmake (s : GS) (a b c : Int) : Int × GS :=
  if has s a then (if fits s b c then (0, { s with nodes := s.nodes ++ [⟨List.replicate b.toNat 0, List.replicate c.toNat 0⟩], hs := s.hs.set a.toNat (s.nodes.length + 1) }) else (6, s)) else (3, s)
def gget (s : GS) (tt h n : Int) : Int × GS :=
  if wrong s h = 0 then (if has s tt then (if inL n (nod s (held s h)).refs.length then (0, { s with hs := s.hs.set tt.toNat ((nod s (held s h)).refs[n.toNat]?.getD 0) }) else (5, s)) else (3, s)) else (wrong s h, s)
def gset (s : GS) (h n fr : Int) : Int × GS :=
  if wrong s h = 0 then (if has s fr then (if inL n (nod s (held s h)).refs.length then (0, { s with nodes := setN s (held s h) ⟨(nod s (held s h)).refs.set n.toNat (held s fr), (nod s (held s h)).scal⟩ }) else (5, s)) else (3, s)) else (wrong s h, s)
def gwrite (s : GS) (h n v : Int) : Int × GS :=
  if wrong s h = 0 then (if inL n (nod s (held s h)).scal.length then (0, { s with nodes := setN s (held s h) ⟨(nod s (held s h)).refs, (nod s (held s h)).scal.set n.toNat v⟩ }) else (5, s)) else (wrong s h, s)
def gclear (s : GS) (h : Int) : Int × GS := if has s h then (0, { s with hs := s.hs.set h.toNat 0 }) else (3, s)
def gcopy (s : GS) (tt fr : Int) : Int × GS := if has s fr && has s tt then (0, { s with hs := s.hs.set tt.toNat (held s fr) }) else (3, s)
def gread (s : GS) (h n : Int) : GA := if wrong s h = 0 then (if inL n (nod s (held s h)).scal.length then ⟨0, false, 0, (nod s (held s h)).scal[n.toNat]?.getD 0⟩ else err 5) else err (wrong s h)
def gsame (s : GS) (a b : Int) : GA := if has s a && has s b then ⟨0, decide (held s a = held s b), 0, 0⟩ else err 3
def gnil (s : GS) (a : Int) : GA := if has s a then ⟨0, decide (held s a = 0), 0, 0⟩ else err 3
def gshape (s : GS) (a : Int) : GA := if wrong s a = 0 then ⟨0, false, (nod s (held s a)).refs.length, (nod s (held s a)).scal.length⟩ else err (wrong s a)
def gidle (a : Int) : GA := if a = 0 ∨ a = 1 then err 0 else err 1
def ans (r : Int × GS) : GA × GS := (err r.1, r.2)
/-- What a step comes to. -/
def gdo (s : GS) (x : A5) : GA × GS :=
  if x.kind = 1 then ans (gmake s x.a x.b x.c)
  else if x.kind = 2 then ans (gget s x.a x.b x.c)
  else if x.kind = 3 then ans (gset s x.a x.b x.c)
  else if x.kind = 4 then (gread s x.a x.b, s)
  else if x.kind = 5 then ans (gwrite s x.a x.b x.v)
  else if x.kind = 6 then ans (gclear s x.a)
  else if x.kind = 7 then ans (gcopy s x.a x.b)
  else if x.kind = 8 then (gsame s x.a x.b, s)
  else if x.kind = 9 then (gnil s x.a, s)
  else if x.kind = 10 then (gshape s x.a, s)
  else if x.kind = 11 ∨ x.kind = 12 then (gidle x.a, s)
  else (err 1, s)
theorem has_iff (s : GS) (h : Int) : has s h = true ↔ 0 ≤ h ∧ h < s.hs.length := by unfold has; simp
theorem inL_iff (n : Int) (l : Nat) : inL n l = true ↔ 0 ≤ n ∧ n < l := by unfold inL; simp
theorem held_le {s : GS} (hs : s.ok) (h : Int) : held s h ≤ s.nodes.length := by
  unfold held
  cases he : s.hs[h.toNat]? with
  | none => simp
  | some x => exact hs.hs x (List.mem_of_getElem? he)
theorem wrong_0 {s : GS} {h : Int} (hw : wrong s h = 0) : has s h = true ∧ held s h ≠ 0 := by
  unfold wrong at hw
  cases hh : has s h
  · rw [hh] at hw; simp at hw
  · rw [hh] at hw
    simp at hw
    refine ⟨rfl, fun h0 => ?_⟩
    simp [h0] at hw
theorem wrong_cases (s : GS) (h : Int) : (has s h = false ∧ wrong s h = 3) ∨ (has s h = true ∧ held s h = 0 ∧ wrong s h = 4) ∨ (has s h = true ∧ held s h ≠ 0 ∧ wrong s h = 0) := by
  unfold wrong
  cases has s h
  · exact .inl ⟨rfl, rfl⟩
  · by_cases h0 : held s h = 0
    · exact .inr (.inl ⟨rfl, h0, by simp [h0]⟩)
    · exact .inr (.inr ⟨rfl, h0, by simp [h0]⟩)
theorem nod_at {s : GS} (hs : s.ok) {i : Nat} (h0 : i ≠ 0) (h1 : i ≤ s.nodes.length) : s.nodes[i - 1]? = some (nod s i) ∧ (nod s i).ok s.nodes.length := by
  have e : s.nodes[i - 1]? = some (s.nodes[i - 1]'(by omega)) := List.getElem?_eq_getElem (by omega)
  have e2 : nod s i = s.nodes[i - 1]'(by omega) := by unfold nod; rw [e]; rfl
  exact ⟨by rw [e, e2], by rw [e2]; exact hs.node _ (List.getElem_mem _)⟩
theorem GN.ok.mono {x : GN} {N M : Nat} (h : x.ok N) (hm : N ≤ M) : x.ok M := ⟨fun r hr => Nat.le_trans (h.1 r hr) hm, h.2⟩
theorem mem_set {α : Type} {l : List α} {i : Nat} {a x : α} (h : x ∈ l.set i a) : x = a ∨ x ∈ l := (List.mem_or_eq_of_mem_set h).symm
theorem set_hs {s : GS} (hs : s.ok) (i : Nat) {x : Nat} (hx : x ≤ s.nodes.length) : ({ s with hs := s.hs.set i x } : GS).ok :=
  ⟨hs.node, fun h hh => (mem_set hh).elim (fun e => e ▸ hx) (hs.hs h), by simpa using hs.hlen, hs.lar⟩
theorem set_node {s : GS} (hs : s.ok) (i : Nat) {x : GN} (hx : x.ok s.nodes.length) : ({ s with nodes := setN s i x } : GS).ok :=
  ⟨fun y hy => by
    have e : (setN s i x).length = s.nodes.length := by simp [setN]
    show y.ok (setN s i x).length
    rw [e]
    exact (mem_set hy).elim (fun e => e ▸ hx) (hs.node y),
   fun h hh => by
    have e : (setN s i x).length = s.nodes.length := by simp [setN]
    show h ≤ (setN s i x).length
    rw [e]; exact hs.hs h hh, hs.hlen, hs.lar⟩
theorem gmake_ok {s : GS} (hs : s.ok) (a b c : Int) : (gmake s a b c).2.ok := by
  unfold gmake
  split
  · split
    · rename_i hf
      unfold fits at hf
      simp at hf
      have := hs.lar
      refine ⟨fun x hx => ?_, fun h hh => ?_, by simpa using hs.hlen, hs.lar⟩
      · simp at hx ⊢
        rcases hx with hx | rfl
        · exact (hs.node x hx).mono (by omega)
        · exact ⟨fun r hr => by simp at hr; omega, fun v hv => by simp at hv; omega, by simp; omega⟩
      · simp at hh ⊢
        rcases mem_set hh with rfl | hh
        · omega
        · have := hs.hs h hh; omega
    · exact hs
  · exact hs
theorem gget_ok {s : GS} (hs : s.ok) (a b c : Int) : (gget s a b c).2.ok := by
  unfold gget
  split
  · rename_i hw
    split
    · split
      · refine set_hs hs _ ?_
        obtain ⟨_, h0⟩ := wrong_0 hw
        have hn := (nod_at hs h0 (held_le hs b)).2
        cases he : (nod s (held s b)).refs[c.toNat]? with
        | none => simp
        | some x => exact hn.1 x (List.mem_of_getElem? he)
      · exact hs
    · exact hs
  · exact hs
theorem gset_ok {s : GS} (hs : s.ok) (a b c : Int) : (gset s a b c).2.ok := by
  unfold gset
  split
  · rename_i hw
    split
    · split
      · obtain ⟨_, h0⟩ := wrong_0 hw
        have hn := (nod_at hs h0 (held_le hs a)).2
        refine set_node hs _ ⟨fun r hr => ?_, hn.2.1, by simpa using hn.2.2⟩
        rcases mem_set hr with rfl | hr
        · exact held_le hs c
        · exact hn.1 r hr
      · exact hs
    · exact hs
  · exact hs
theorem gwrite_ok {s : GS} (hs : s.ok) (a b v : Int) (hv : 0 ≤ v ∧ v ≤ 18446744073709551615) : (gwrite s a b v).2.ok := by
  unfold gwrite
  split
  · rename_i hw
    split
    · obtain ⟨_, h0⟩ := wrong_0 hw
      have hn := (nod_at hs h0 (held_le hs a)).2
      refine set_node hs _ ⟨hn.1, fun r hr => ?_, by simpa using hn.2.2⟩
      rcases mem_set hr with rfl | hr
      · exact hv
      · exact hn.2.1 r hr
    · exact hs
  · exact hs
theorem gdo_ok {s : GS} (hs : s.ok) (x : A5) (hx : x.wf) : (gdo s x).2.ok := by
  unfold gdo
  (repeat' split)
  · exact gmake_ok hs _ _ _
  · exact gget_ok hs _ _ _
  · exact gset_ok hs _ _ _
  · exact hs
  · exact gwrite_ok hs _ _ _ hx.2.2.2.2
  · unfold ans gclear; split
    · exact set_hs hs _ (Nat.zero_le _)
    · exact hs
  · unfold ans gcopy; split
    · exact set_hs hs _ (held_le hs _)
    · exact hs
  all_goals exact hs
theorem gdo_len (s : GS) (x : A5) : (gdo s x).2.hs.length = s.hs.length ∧ (gdo s x).2.nodes.length ≤ s.nodes.length + 1 ∧ (gdo s x).2.largest = s.largest := by
  unfold gdo
  (repeat' split) <;> simp [ans, gmake, gget, gset, gwrite, gclear, gcopy, setN] <;> (repeat' split) <;> simp

/-- Those of a list that are met for the first time. -/
def meetL (out : List Nat) : List Nat → List Nat
  | [] => out
  | x :: r => meetL (if x = 0 ∨ x ∈ out then out else out ++ [x]) r
def bfs (s : GS) : Nat → Nat → List Nat → List Nat
  | 0, _, out => out
  | f + 1, n, out => match out[n]? with
    | none => out
    | some x => bfs s f (n + 1) (meetL out (nod s x).refs)
/-- All that handles come to, in the order in which they are met. -/
def live (s : GS) : List Nat := bfs s s.nodes.length 0 (meetL [] s.hs)
/-- Where a node stands, from 1 on. -/
def num (o : List Nat) (x : Nat) : Nat := if x ∈ o then o.idxOf x + 1 else 0
def shown (s : GS) : List (List Int × List Int) := (live s).map fun x => ((nod s x).refs.map (fun r => ((num (live s) r : Nat) : Int)), (nod s x).scal)
def helds (s : GS) : List Int := s.hs.map fun r => ((num (live s) r : Nat) : Int)
def words (s : GS) : Nat := ((live s).map fun x => (nod s x).refs.length + (nod s x).scal.length + 2).sum
/-- Numbers of nodes, none twice. -/
structure OutOk (N : Nat) (out : List Nat) : Prop where
  nd : out.Nodup
  pos : ∀ x ∈ out, x ≠ 0
  le : ∀ x ∈ out, x ≤ N
theorem OutOk.len {N : Nat} {out : List Nat} (h : OutOk N out) : out.length ≤ N := by
  have h1 : out ⊆ (List.range N).map (· + 1) := fun x hx => by
    have := h.pos x hx
    have := h.le x hx
    simp
    exact ⟨x - 1, by omega, by omega⟩
  have h2 := (List.nodup_iff_count.1 h.nd)
  have := h.nd.length_le_of_subset h1
  simpa using this
theorem OutOk.add {N : Nat} {out : List Nat} (h : OutOk N out) {x : Nat} (h0 : x ≠ 0) (h1 : x ≤ N) (h2 : x ∉ out) : OutOk N (out ++ [x]) := by
  refine ⟨?_, ?_, ?_⟩
  · rw [List.nodup_append]
    exact ⟨h.nd, by simp, fun a ha b hb => by simp at hb; subst hb; rintro rfl; exact h2 ha⟩
  · intro y hy
    simp at hy
    rcases hy with hy | rfl
    · exact h.pos y hy
    · exact h0
  · intro y hy
    simp at hy
    rcases hy with hy | rfl
    · exact h.le y hy
    · exact h1
theorem OutOk.meet {N : Nat} {l : List Nat} : ∀ {out : List Nat}, OutOk N out → (∀ x ∈ l, x ≤ N) → OutOk N (meetL out l) := by
  induction l with
  | nil => intro out h _; exact h
  | cons x r ih =>
    intro out h hl
    unfold meetL
    refine ih ?_ (fun y hy => hl y (List.mem_cons_of_mem _ hy))
    split
    · exact h
    · rename_i hx
      simp at hx
      exact h.add hx.1 (hl x List.mem_cons_self) hx.2
theorem OutOk.nil (N : Nat) : OutOk N [] := ⟨by simp, by simp, by simp⟩
theorem meet_take {l : List Nat} {k : Nat} (hk : k < l.length) (out : List Nat) : meetL out (l.take (k + 1)) = (if l[k] = 0 ∨ l[k] ∈ meetL out (l.take k) then meetL out (l.take k) else meetL out (l.take k) ++ [l[k]]) := by
  induction l generalizing out k with
  | nil => simp at hk
  | cons x r ih =>
    cases k with
    | zero => simp [meetL]
    | succ k =>
      simp at hk
      rw [List.take_succ_cons, List.take_succ_cons]
      unfold meetL
      rw [ih hk]
      simp
theorem meet_pre {l : List Nat} : ∀ out : List Nat, ∃ m, meetL out l = out ++ m := by
  induction l with
  | nil => intro out; exact ⟨[], by simp [meetL]⟩
  | cons x r ih =>
    intro out
    unfold meetL
    split
    · exact ih out
    · obtain ⟨m, hm⟩ := ih (out ++ [x])
      exact ⟨x :: m, by rw [hm]; simp⟩
theorem live_ok {s : GS} (hs : s.ok) : OutOk s.nodes.length (live s) := by
  have key : ∀ f n out, OutOk s.nodes.length out → OutOk s.nodes.length (bfs s f n out) := by
    intro f
    induction f with
    | zero => intro n out h; exact h
    | succ f ih =>
      intro n out h
      unfold bfs
      cases ho : out[n]? with
      | none => exact h
      | some x =>
        have hm := List.mem_of_getElem? ho
        exact ih _ _ (h.meet (nod_at hs (h.pos x hm) (h.le x hm)).2.1)
  exact key _ _ _ ((OutOk.nil _).meet hs.hs)
end Go.Proofs.YtihmkkjmnbehbaaGreat.Gr
/- A heap's objects stand for a graph's nodes: what holds, and that bits of work keep it. No condition. -/
set_option linter.unusedVariables false
set_option linter.unusedSimpArgs false
namespace Go.Proofs.YtihmkkjmnbehbaaGreat.Wh
open Go.RowKit Go.Proofs.YtihmkkjmnbehbaaGreat.W
/-- A place stands for a node. -/
def Den (m : Mp) (R : Nat → Prop) (v : Int) (q : Nat) : Prop := (v = 0 ∧ q = 0) ∨ (q ≠ 0 ∧ R q ∧ ∃ p, m v = some p ∧ p.id = q)
def rf (G : Gr.GS) (i j : Nat) : Nat := (Gr.nod G i).refs[j]?.getD 0
def sc (G : Gr.GS) (i j : Nat) : Int := (Gr.nod G i).scal[j]?.getD 0
structure NodeOk (m : Mp) (R : Nat → Prop) (G : Gr.GS) (p : OR) : Prop where
  ptrs : p.hd.ptrs = (Gr.nod G p.id).refs.length
  size : p.hd.size = (Gr.nod G p.id).refs.length + (Gr.nod G p.id).scal.length
  refs : ∀ i : Nat, i < (Gr.nod G p.id).refs.length → Den m R (p.f i) (rf G p.id i)
  scal : ∀ i : Nat, i < (Gr.nod G p.id).scal.length → p.f ((Gr.nod G p.id).refs.length + i) = sc G p.id i
structure Sim (c : CF) (m : Mp) (R : Nat → Prop) (tb : List Int) (G : Gr.GS) : Prop where
  gok : G.ok
  lar : (G.largest : Int) = c.l
  tl : (tb.length : Int) = c.h
  hl : tb.length = G.hs.length
  tbD : ∀ i : Nat, i < tb.length → Den m R (tb[i]?.getD 0) (G.hs[i]?.getD 0)
  node : ∀ a p, m a = some p → R p.id → p.way = a → NodeOk m R G p
theorem Den.fn {m : Mp} {R : Nat → Prop} (h0 : m 0 = none) {v : Int} {q q' : Nat} (h : Den m R v q) (h' : Den m R v q') : q = q' := by
  rcases h with ⟨e, e'⟩ | ⟨_, _, p, hp, e⟩
  · rcases h' with ⟨f, f'⟩ | ⟨_, _, p, hp, _⟩
    · rw [e', f']
    · rw [e, h0] at hp; cases hp
  · rcases h' with ⟨f, f'⟩ | ⟨_, _, p', hp', e'⟩
    · rw [f, h0] at hp; cases hp
    · rw [hp] at hp'; cases hp'; rw [← e, ← e']
theorem Den.mono {m m' : Mp} {R : Nat → Prop} {v : Int} {q : Nat} (h : Den m R v q) (hm : ∀ p, m v = some p → ∃ p', m' v = some p' ∧ p'.id = p.id) : Den m' R v q := by
  rcases h with h | ⟨h1, h2, p, hp, e⟩
  · exact .inl h
  · obtain ⟨p', hp', e'⟩ := hm p hp
    exact .inr ⟨h1, h2, p', hp', e'.trans e⟩
theorem Den.rmono {m : Mp} {R R' : Nat → Prop} {v : Int} {q : Nat} (h : Den m R v q) (hR : R q → R' q) : Den m R' v q := h.imp_right fun ⟨h1, h2, h3⟩ => ⟨h1, hR h2, h3⟩
theorem nod_set {G : Gr.GS} {i : Nat} (h0 : i ≠ 0) (h1 : i ≤ G.nodes.length) (x : Gr.GN) (j : Nat) (hj : j ≠ 0) : Gr.nod { G with nodes := Gr.setN G i x } j = if j = i then x else Gr.nod G j := by
  unfold Gr.nod Gr.setN
  simp only []
  by_cases e : j = i
  · subst e; rw [if_pos rfl, List.getElem?_set_self (by omega)]; rfl
  · rw [if_neg e, List.getElem?_set_ne (by omega)]
theorem nod_hs (G : Gr.GS) (hs : List Nat) (j : Nat) : Gr.nod { G with hs := hs } j = Gr.nod G j := rfl
section
variable {c : CF} {ws : List Int} {y y' : Bp.Sp} {o o' : Ma.MS} {mv : Bool} {scan cop : Int} {m m' : Mp} {N : Nat} {R R' : Nat → Prop} {tb : List Int} {G : Gr.GS}
/-- What matters here stays. -/
structure KeepS (m m' : Mp) : Prop where
  fwd : ∀ a p, m a = some p → ∃ q, m' a = some q ∧ q.id = p.id
  back : ∀ a q, m' a = some q → ∃ p, m a = some p ∧ q.way = p.way ∧ q.hd.ptrs = p.hd.ptrs ∧ q.hd.size = p.hd.size ∧ q.fl = p.fl ∧ q.id = p.id
theorem KeepS.up {a : Int} {p q : OR} (ha : m a = some p) (h1 : q.way = p.way) (h2 : q.hd.ptrs = p.hd.ptrs) (h3 : q.hd.size = p.hd.size) (h4 : q.fl = p.fl) (h5 : q.id = p.id) : KeepS m (upM m a q) := by
  refine ⟨fun b r hb => ?_, fun b r hb => ?_⟩
  · by_cases e : b = a
    · subst e; rw [ha] at hb; cases hb; exact ⟨q, upM_self _ _ _, h5⟩
    · exact ⟨r, by rw [upM_ne _ _ e]; exact hb, rfl⟩
  · rcases up_get hb with ⟨e1, e2⟩ | ⟨e1, hb⟩
    · rw [e1, e2]; exact ⟨p, ha, h1, h2, h3, h4, h5⟩
    · exact ⟨r, hb, rfl, rfl, rfl, rfl, rfl⟩
theorem Sim.keep (h : Sim c m R tb G) (k : KeepS m m') : Sim c m' R tb G := by
  have dm : ∀ {v q}, Den m R v q → Den m' R v q := fun hd => hd.mono fun p hp => k.fwd _ p hp
  refine ⟨h.gok, h.lar, h.tl, h.hl, fun i hi => dm (h.tbD i hi), fun a q hq hR hw => ?_⟩
  obtain ⟨p, hp, e1, e2, e3, e4, e5⟩ := k.back a q hq
  have n := h.node a p hp (e5 ▸ hR) (e1 ▸ hw)
  have ef : ∀ i, q.f i = p.f i := fun i => by unfold OR.f; rw [e4]
  refine ⟨by rw [e2, e5]; exact n.ptrs, by rw [e3, e5]; exact n.size, fun i hi => ?_, fun i hi => ?_⟩
  · rw [e5] at hi ⊢; rw [ef]; exact dm (n.refs i hi)
  · rw [e5] at hi ⊢; rw [ef]; exact n.scal i hi
theorem mv_id {a b : Int} {p : OR} {k : Hd} (hp : m a = some p) (nb : m b = none) {v : Int} {q : OR} (hq : m v = some q) : ∃ q', mvM m a b p k v = some q' ∧ q'.id = q.id := by
  by_cases e : v = a
  · subst e; rw [hp] at hq; cases hq; exact ⟨_, mv_a _ _ _ _ _, rfl⟩
  · have e2 : v ≠ b := by rintro rfl; rw [nb] at hq; cases hq
    exact ⟨q, by rw [mv_c m p k e e2]; exact hq, rfl⟩
theorem Sim.move {a b : Int} {p : OR} {k : Hd} (h : Sim c m R tb G) (hp : m a = some p) (nb : m b = none) (hw : p.way = a) (kp : k.ptrs = p.hd.ptrs) (ks : k.size = p.hd.size) : Sim c (mvM m a b p k) R tb G := by
  have dm : ∀ {v q}, Den m R v q → Den (mvM m a b p k) R v q := fun hd => hd.mono fun p' hp' => mv_id hp nb hp'
  have nab : b ≠ a := by rintro rfl; rw [nb] at hp; cases hp
  have up : ∀ {q : OR}, NodeOk m R G q → NodeOk (mvM m a b p k) R G q := fun n => ⟨n.ptrs, n.size, fun i hi => dm (n.refs i hi), n.scal⟩
  refine ⟨h.gok, h.lar, h.tl, h.hl, fun i hi => dm (h.tbD i hi), fun d q hq hR hw' => ?_⟩
  rcases mv_get hq with ⟨rfl, rfl⟩ | ⟨rfl, _, rfl⟩ | ⟨_, _, hq⟩
  · exact (nab hw').elim
  · have n := up (h.node a p hp hR hw)
    exact ⟨kp.trans n.ptrs, ks.trans n.size, n.refs, n.scal⟩
  · exact up (h.node d q hq hR hw')
theorem up_den {a : Int} {p P : OR} (hp : m a = some p) (hi : P.id = p.id) {v : Int} {q : Nat} (h : Den m R v q) : Den (upM m a P) R v q := h.mono fun p' hp' => by
  by_cases e : v = a
  · subst e; rw [hp] at hp'; cases hp'; exact ⟨P, upM_self _ _ _, hi⟩
  · exact ⟨p', by rw [upM_ne _ _ e]; exact hp', rfl⟩
/-- A reference becomes another one that stands for the same. -/
theorem Sim.fld {a : Int} {p : OR} (h : Sim c m R tb G) (ha : m a = some p) (n : Nat) (v : Int) (hn : (n : Int) < p.hd.ptrs) (hv : ∀ q, Den m R (p.f n) q → Den m R v q) : Sim c (upM m a { p with fl := p.fl.set n v }) R tb G := by
  have dm : ∀ {w q}, Den m R w q → Den (upM m a { p with fl := p.fl.set n v }) R w q := fun hd => up_den (P := { p with fl := p.fl.set n v }) ha rfl hd
  refine ⟨h.gok, h.lar, h.tl, h.hl, fun i hi => dm (h.tbD i hi), fun d q hq hR hw => ?_⟩
  rcases up_get hq with ⟨e1, e2⟩ | ⟨e1, hq⟩
  · subst e2
    have k := h.node a p ha hR (e1 ▸ hw)
    refine ⟨k.ptrs, k.size, fun i hi => ?_, fun i hi => ?_⟩
    · show Den _ R ((p.fl.set n v)[i]?.getD 0) _
      rw [f_set]
      have hr := k.refs i hi
      split
      · rename_i e; rw [e.1] at hr ⊢; exact dm (hv _ hr)
      · exact dm hr
    · show (p.fl.set n v)[_]?.getD 0 = _
      rw [f_set, if_neg]
      · exact k.scal i hi
      · have := k.ptrs; show ¬ ((Gr.nod G p.id).refs.length + i = n ∧ _); omega
  · have k := h.node d q hq hR hw
    exact ⟨k.ptrs, k.size, fun i hi => dm (k.refs i hi), k.scal⟩
/-- A reference is written: the node's, too. -/
theorem Sim.set {a : Int} {p : OR} (h : Sim c m R tb G) (g : Geo c ws y o mv scan cop m R G.nodes.length) (ha : m a = some p) (hR : R p.id) (hw : p.way = a) (n : Nat) (v : Int) (q : Nat) (hn : n < (Gr.nod G p.id).refs.length) (hv : Den m R v q) (hq : q ≤ G.nodes.length) :
    Sim c (upM m a { p with fl := p.fl.set n v }) R tb { G with nodes := Gr.setN G p.id ⟨(Gr.nod G p.id).refs.set n q, (Gr.nod G p.id).scal⟩ } := by
  have dm : ∀ {w q}, Den m R w q → Den (upM m a { p with fl := p.fl.set n v }) R w q := fun hd => up_den (P := { p with fl := p.fl.set n v }) ha rfl hd
  obtain ⟨i1, i2⟩ := g.idb a p ha
  have k := h.node a p ha hR hw
  have gn := (Gr.nod_at h.gok (by omega : p.id ≠ 0) i2).2
  have gok := Gr.set_node h.gok p.id (x := ⟨(Gr.nod G p.id).refs.set n q, (Gr.nod G p.id).scal⟩) ⟨fun r hr => by
    rcases Gr.mem_set hr with rfl | hr
    · exact hq
    · exact gn.1 r hr, gn.2.1, by simpa using gn.2.2⟩
  refine ⟨gok, h.lar, h.tl, h.hl, fun i hi => dm (h.tbD i hi), fun d r hr hR' hw' => ?_⟩
  rcases up_get hr with ⟨e1, e2⟩ | ⟨e1, hr⟩
  · subst e2
    have e : Gr.nod { G with nodes := Gr.setN G p.id ⟨(Gr.nod G p.id).refs.set n q, (Gr.nod G p.id).scal⟩ } p.id = ⟨(Gr.nod G p.id).refs.set n q, (Gr.nod G p.id).scal⟩ := by rw [nod_set (by omega) i2 _ _ (by omega), if_pos rfl]
    have hl := (g.rep.at_ a p ha).len
    have kp := k.ptrs; have ks := k.size
    refine ⟨by rw [e]; simpa using k.ptrs, by rw [e]; simpa using k.size, fun i hi => ?_, fun i hi => ?_⟩
    · simp only [e] at hi
      show Den _ R ((p.fl.set n v)[i]?.getD 0) (rf _ p.id i)
      unfold rf; rw [e, f_set]
      simp only [List.length_set] at hi
      by_cases ei : i = n
      · subst ei
        rw [if_pos ⟨rfl, by omega⟩]
        simp only [List.getElem?_set_self hi, Option.getD_some]
        exact dm hv
      · rw [if_neg (fun hh => ei hh.1)]
        simp only [List.getElem?_set_ne (Ne.symm ei)]
        exact dm (k.refs i hi)
    · simp only [e] at hi
      show (p.fl.set n v)[(Gr.nod _ p.id).refs.length + i]?.getD 0 = sc _ p.id i
      unfold sc; rw [e, f_set]
      simp only [List.length_set]
      rw [if_neg (by omega)]
      exact k.scal i hi
  · have ne : r.id ≠ p.id := fun e => e1 (g.uniq d a r p hr ha hw' hw e)
    have kk := h.node d r hr hR' hw'
    have e : Gr.nod { G with nodes := Gr.setN G p.id ⟨(Gr.nod G p.id).refs.set n q, (Gr.nod G p.id).scal⟩ } r.id = Gr.nod G r.id := by rw [nod_set (by omega) i2 _ _ (by have := g.idb d r hr; omega), if_neg ne]
    refine ⟨by rw [e]; exact kk.ptrs, by rw [e]; exact kk.size, fun i hi => ?_, fun i hi => ?_⟩
    · rw [e] at hi; unfold rf; rw [e]; exact dm (kk.refs i hi)
    · rw [e] at hi; unfold sc; rw [e]; exact kk.scal i hi
/-- A word is written. -/
theorem Sim.write {a : Int} {p : OR} (h : Sim c m R tb G) (g : Geo c ws y o mv scan cop m R G.nodes.length) (ha : m a = some p) (hR : R p.id) (hw : p.way = a) (n : Nat) (v : Int) (hn : n < (Gr.nod G p.id).scal.length) (hv : 0 ≤ v ∧ v ≤ 18446744073709551615) :
    Sim c (upM m a { p with fl := p.fl.set ((Gr.nod G p.id).refs.length + n) v }) R tb { G with nodes := Gr.setN G p.id ⟨(Gr.nod G p.id).refs, (Gr.nod G p.id).scal.set n v⟩ } := by
  have dm : ∀ {w q}, Den m R w q → Den (upM m a { p with fl := p.fl.set ((Gr.nod G p.id).refs.length + n) v }) R w q := fun hd => up_den (P := { p with fl := p.fl.set ((Gr.nod G p.id).refs.length + n) v }) ha rfl hd
  obtain ⟨i1, i2⟩ := g.idb a p ha
  have k := h.node a p ha hR hw
  have gn := (Gr.nod_at h.gok (by omega : p.id ≠ 0) i2).2
  have gok := Gr.set_node h.gok p.id (x := ⟨(Gr.nod G p.id).refs, (Gr.nod G p.id).scal.set n v⟩) ⟨gn.1, fun r hr => by
    rcases Gr.mem_set hr with rfl | hr
    · exact hv
    · exact gn.2.1 r hr, by simpa using gn.2.2⟩
  refine ⟨gok, h.lar, h.tl, h.hl, fun i hi => dm (h.tbD i hi), fun d r hr hR' hw' => ?_⟩
  rcases up_get hr with ⟨e1, e2⟩ | ⟨e1, hr⟩
  · subst e2
    have e : Gr.nod { G with nodes := Gr.setN G p.id ⟨(Gr.nod G p.id).refs, (Gr.nod G p.id).scal.set n v⟩ } p.id = ⟨(Gr.nod G p.id).refs, (Gr.nod G p.id).scal.set n v⟩ := by rw [nod_set (by omega) i2 _ _ (by omega), if_pos rfl]
    have hl := (g.rep.at_ a p ha).len
    have kp := k.ptrs; have ks := k.size
    refine ⟨by rw [e]; exact k.ptrs, by rw [e]; simpa using k.size, fun i hi => ?_, fun i hi => ?_⟩
    · simp only [e] at hi
      show Den _ R ((p.fl.set _ v)[i]?.getD 0) (rf _ p.id i)
      unfold rf; rw [e, f_set, if_neg (by omega)]
      exact dm (k.refs i hi)
    · simp only [e] at hi
      show (p.fl.set _ v)[(Gr.nod _ p.id).refs.length + i]?.getD 0 = sc _ p.id i
      unfold sc; rw [e, f_set]
      simp only [List.length_set] at hi ⊢
      by_cases ei : i = n
      · subst ei
        rw [if_pos ⟨rfl, by omega⟩]
        simp only [List.getElem?_set_self hi, Option.getD_some]
      · rw [if_neg (by omega)]
        simp only [List.getElem?_set_ne (Ne.symm ei)]
        exact k.scal i hi
  · have ne : r.id ≠ p.id := fun e => e1 (g.uniq d a r p hr ha hw' hw e)
    have kk := h.node d r hr hR' hw'
    have e : Gr.nod { G with nodes := Gr.setN G p.id ⟨(Gr.nod G p.id).refs, (Gr.nod G p.id).scal.set n v⟩ } r.id = Gr.nod G r.id := by rw [nod_set (by omega) i2 _ _ (by have := g.idb d r hr; omega), if_neg ne]
    refine ⟨by rw [e]; exact kk.ptrs, by rw [e]; exact kk.size, fun i hi => ?_, fun i hi => ?_⟩
    · rw [e] at hi; unfold rf; rw [e]; exact dm (kk.refs i hi)
    · rw [e] at hi; unfold sc; rw [e]; exact kk.scal i hi
/-- A handle holds another one. -/
theorem Sim.tab (h : Sim c m R tb G) (i : Nat) {v : Int} {q : Nat} (hv : Den m R v q) (hq : q ≤ G.nodes.length) : Sim c m R (tb.set i v) { G with hs := G.hs.set i q } := by
  refine ⟨Gr.set_hs h.gok i hq, h.lar, by simpa using h.tl, by simpa using h.hl, fun j hj => ?_, fun a p hp hR hw => ?_⟩
  · simp only [List.length_set] at hj
    have hl := h.hl
    by_cases e : i = j
    · subst e
      rw [List.getElem?_set_self hj, List.getElem?_set_self (by omega)]; exact hv
    · rw [List.getElem?_set_ne e, List.getElem?_set_ne e]; exact h.tbD j hj
  · have k := h.node a p hp hR hw
    exact ⟨k.ptrs, k.size, k.refs, k.scal⟩
theorem nod_app {G : Gr.GS} {j : Nat} (hj : j ≠ 0) (h1 : j ≤ G.nodes.length) (x : Gr.GN) : Gr.nod { G with nodes := G.nodes ++ [x] } j = Gr.nod G j := by
  unfold Gr.nod; simp only []
  rw [List.getElem?_append_left (by omega)]
theorem nod_new (G : Gr.GS) (x : Gr.GN) : Gr.nod { G with nodes := G.nodes ++ [x] } (G.nodes.length + 1) = x := by
  unfold Gr.nod; simp
/-- An object is made: a node is. -/
theorem Sim.make {b : Int} {P : OR} {x s : Nat} (h : Sim c m R tb G) (g : Geo c ws y o mv scan cop m R G.nodes.length) (nb : m b = none) (hi : P.id = G.nodes.length + 1) (hp : P.hd.ptrs = x) (hs : P.hd.size = x + s) (hf : ∀ i, P.f i = 0) (hx : x + s ≤ 64) :
    Sim c (upM m b P) (fun i => R i ∨ i = G.nodes.length + 1) tb { G with nodes := G.nodes ++ [⟨List.replicate x 0, List.replicate s 0⟩] } := by
  have dm : ∀ {w q}, Den m R w q → Den (upM m b P) (fun i => R i ∨ i = G.nodes.length + 1) w q := fun {w q} hd => by
    refine Den.rmono (hd.mono fun p' hp' => ⟨p', ?_, rfl⟩) .inl
    rw [upM_ne]; exact hp'
    rintro rfl; rw [nb] at hp'; cases hp'
  have gok : Gr.GS.ok { G with nodes := G.nodes ++ [⟨List.replicate x 0, List.replicate s 0⟩] } := by
    refine ⟨fun z hz => ?_, fun z hz => ?_, h.gok.hlen, h.gok.lar⟩
    · simp only [List.mem_append, List.mem_singleton] at hz
      rcases hz with hz | rfl
      · exact (h.gok.node z hz).mono (by simp)
      · exact ⟨fun r hr => by simp at hr; omega, fun v hv => by simp at hv; omega, by simpa using hx⟩
    · have := h.gok.hs z hz; simp; omega
  refine ⟨gok, h.lar, h.tl, h.hl, fun i hi => dm (h.tbD i hi), fun d r hr hR' hw' => ?_⟩
  rcases up_get hr with ⟨e1, e2⟩ | ⟨e1, hr⟩
  · subst e2
    have e := nod_new G ⟨List.replicate x 0, List.replicate s 0⟩
    refine ⟨by rw [hi, e]; simpa using hp, by rw [hi, e]; simpa using hs, fun i h' => ?_, fun i h' => ?_⟩
    · rw [hf, hi]; unfold rf; rw [e]
      refine .inl ⟨rfl, ?_⟩
      simp only [List.getElem?_replicate]; split <;> rfl
    · rw [hf, hi]; unfold sc; rw [e]
      simp only [List.getElem?_replicate]; split <;> rfl
  · have ib := g.idb d r hr
    have e := nod_app (G := G) (j := r.id) (by omega) ib.2 ⟨List.replicate x 0, List.replicate s 0⟩
    have kk := h.node d r hr (hR'.resolve_right (by omega)) hw'
    refine ⟨by rw [e]; exact kk.ptrs, by rw [e]; exact kk.size, fun i hi => ?_, fun i hi => ?_⟩
    · rw [e] at hi; unfold rf; rw [e]; exact dm (kk.refs i hi)
    · rw [e] at hi; unfold sc; rw [e]; exact kk.scal i hi
/-- Some are gone, none of which is referred to. -/
theorem Sim.sub (h : Sim c m R tb G) (hm : ∀ a p, m' a = some p → m a = some p) (hR : ∀ i, R' i → R i) (ht : ∀ i : Nat, i < tb.length → ∀ q, Den m R (tb[i]?.getD 0) q → Den m' R' (tb[i]?.getD 0) q)
    (hn : ∀ a p, m' a = some p → R' p.id → p.way = a → ∀ i : Nat, (i : Int) < p.hd.ptrs → ∀ q, Den m R (p.f i) q → Den m' R' (p.f i) q) : Sim c m' R' tb G := by
  refine ⟨h.gok, h.lar, h.tl, h.hl, fun i hi => ht i hi _ (h.tbD i hi), fun a p hp hR' hw => ?_⟩
  have k := h.node a p (hm a p hp) (hR _ hR') hw
  exact ⟨k.ptrs, k.size, fun i hi => hn a p hp hR' hw i (by have := k.ptrs; omega) _ (k.refs i hi), k.scal⟩
end
end Go.Proofs.YtihmkkjmnbehbaaGreat.Wh
