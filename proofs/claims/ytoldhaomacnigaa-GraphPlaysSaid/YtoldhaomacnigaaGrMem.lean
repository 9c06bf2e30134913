/- A graph of package graph in memory. No condition. -/
import Derived.Test.YtoldhaomacnigaaGrPure
import Derived.Test.YtoldhaomacnigaaKRow
import Derived.Test.YtoldhaomacnigaaPMaps
set_option linter.unusedVariables false
set_option linter.unusedSimpArgs false
namespace Go.Proofs.Ytoldhaomacnigaa.W
section
variable {W w : World} {oo : Nat → Prop} {l : List Pr}
theorem SepO.blk_ne {g g' : Nat} {t t' : TypeId} {cs cs' : Array Value} (h : SepO W oo w l) (i j : Nat) (hi : l[i]? = some (blkP g t cs)) (hj : l[j]? = some (blkP g' t' cs')) (hij : i ≠ j) : g ≠ g' := by
  obtain ⟨o, o', h1, h2, h3, _⟩ := h.two i j hi hj hij
  rintro rfl
  exact h3 g h1.1 h2.1
end
end Go.Proofs.Ytoldhaomacnigaa.W
namespace Go.Proofs.Ytoldhaomacnigaa.Gr
open Go.RowKit Go.Proofs.Ytoldhaomacnigaa.W

/-- A node's blocks: itself, its references, its words. -/
structure NB where
  b : Nat
  r : Nat
  s : Nat
abbrev NL := List (GN × NB)
/-- A node's block. -/
def bk (N : NL) (i : Nat) : Option Nat := if i = 0 then none else (N[i - 1]?).map (·.2.b)
def pv (N : NL) (i : Nat) : Value := penc (bk N i)
theorem pv_ptr (N : NL) (i : Nat) : ∃ q, pv N i = .pointer q := by
  unfold pv penc; split <;> exact ⟨_, rfl⟩
def pvs (N : NL) (l : List Nat) : Array Value := (l.map (pv N)).toArray
def wds (l : List Int) : Array Value := (l.map (Value.int .u64)).toArray
abbrev slv (g n : Nat) : Value := .slice (some ⟨g, 0, none⟩) n n
def npl (N : NL) (p : GN × NB) : List Pr := [blkP p.2.b 67 #[slv p.2.r p.1.refs.length, slv p.2.s p.1.scal.length], blkP p.2.r 59 (pvs N p.1.refs), blkP p.2.s 28 (wds p.1.scal)]
def gparts (g H lar : Nat) (hs : List Nat) (N : NL) : List Pr := blkP g 51 #[slv H hs.length, .int .i64 lar] :: blkP H 59 (pvs N hs) :: N.flatMap (npl N)
/-- A graph, as one part. -/
def Gph (g : Nat) (s : GS) : Pr := exP fun r : Nat × NL => andP (s.ok ∧ r.2.map (·.1) = s.nodes) (sepP (gparts g r.1 s.largest s.hs r.2))

theorem fm_len {α : Type} {N : List α} {f : α → List Pr} (hf : ∀ p, (f p).length = 3) : (N.flatMap f).length = 3 * N.length := by
  induction N with
  | nil => rfl
  | cons p r ih => simp only [List.flatMap_cons, List.length_append, ih, hf, List.length_cons]; omega
theorem fm_get {α : Type} {N : List α} {f : α → List Pr} (hf : ∀ p, (f p).length = 3) {i : Nat} {p : α} (h : N[i]? = some p) {j : Nat} (hj : j < 3) : (N.flatMap f)[3 * i + j]? = (f p)[j]? := by
  induction N generalizing i with
  | nil => simp at h
  | cons q r ih =>
    rw [List.flatMap_cons]
    cases i with
    | zero =>
      simp at h
      subst h
      rw [Nat.mul_zero, Nat.zero_add, List.getElem?_append_left (by rw [hf]; exact hj)]
    | succ i =>
      simp at h
      rw [List.getElem?_append_right (by rw [hf]; omega), hf, show 3 * (i + 1) + j - 3 = 3 * i + j by omega]
      exact ih h
theorem fm_set {α : Type} {N : List α} {f : α → List Pr} (hf : ∀ p, (f p).length = 3) {i : Nat} {p q : α} (h : N[i]? = some p) {j : Nat} (hj : j < 3) {P : Pr} (hq : (f p).set j P = f q) : (N.flatMap f).set (3 * i + j) P = (N.set i q).flatMap f := by
  induction N generalizing i with
  | nil => simp at h
  | cons r t ih =>
    cases i with
    | zero =>
      simp at h
      subst h
      rw [List.flatMap_cons, Nat.mul_zero, Nat.zero_add, List.set_append_left _ _ (by rw [hf]; exact hj), hq]
      simp
    | succ i =>
      simp at h
      rw [List.flatMap_cons, List.set_append_right _ _ (by rw [hf]; omega), hf, show 3 * (i + 1) + j - 3 = 3 * i + j by omega, ih h]
      simp
theorem npl_len (N : NL) (p : GN × NB) : (npl N p).length = 3 := rfl
theorem bk_app {N : NL} {q : List (GN × NB)} {i : Nat} (h : i ≤ N.length) : bk (N ++ q) i = bk N i := by
  unfold bk
  split
  · rfl
  · rw [List.getElem?_append_left (by omega)]
theorem bk_set {N : NL} {i : Nat} {p q : GN × NB} (h : N[i]? = some p) (hb : q.2 = p.2) (j : Nat) : bk (N.set i q) j = bk N j := by
  unfold bk
  split
  · rfl
  · rw [List.getElem?_set]
    split
    · rename_i hij
      subst hij
      rw [h]
      rw [if_pos (List.getElem?_eq_some_iff.1 h).1]
      simp [hb]
    · rfl
theorem pvs_app {N : NL} {q : List (GN × NB)} {l : List Nat} (h : ∀ x ∈ l, x ≤ N.length) : pvs (N ++ q) l = pvs N l := by
  unfold pvs
  congr 1
  exact List.map_congr_left fun x hx => by unfold pv; rw [bk_app (h x hx)]
theorem pvs_of {N M : NL} (h : ∀ j, bk M j = bk N j) (l : List Nat) : pvs M l = pvs N l := by
  unfold pvs pv; simp only [h]
theorem npl_of {N M : NL} (h : ∀ j, bk M j = bk N j) : npl M = npl N := by
  funext p; unfold npl; rw [pvs_of h]
theorem pvs_set (N : NL) (l : List Nat) (i x : Nat) : (pvs N l).setIfInBounds i (pv N x) = pvs N (l.set i x) := by simp [pvs, List.map_set]
theorem pvs_get {N : NL} {l : List Nat} {i : Nat} (h : i < l.length) : (pvs N l)[i]? = some (pv N (l[i]?.getD 0)) := by simp [pvs, h]
theorem wds_set (l : List Int) (i : Nat) (x : Int) : (wds l).setIfInBounds i (.int .u64 x) = wds (l.set i x) := by simp [wds, List.map_set]
theorem wds_get {l : List Int} {i : Nat} (h : i < l.length) : (wds l)[i]? = some (.int .u64 (l[i]?.getD 0)) := by simp [wds, h]
section
variable {W w : World} {oo : Nat → Prop} {g H lar : Nat} {hs : List Nat} {N : NL}
theorem g_blk (h : SepO W oo w (gparts g H lar hs N)) : Blk w g 51 #[slv H hs.length, .int .i64 lar] := h.blk 0 rfl
theorem g_hs (h : SepO W oo w (gparts g H lar hs N)) : Blk w H 59 (pvs N hs) := h.blk 1 rfl
theorem g_part {i : Nat} {p : GN × NB} (hp : N[i]? = some p) {j : Nat} (hj : j < 3) : (gparts g H lar hs N)[3 * i + j + 2]? = (npl N p)[j]? := fm_get (npl_len N) hp hj
theorem g_node (h : SepO W oo w (gparts g H lar hs N)) {i : Nat} {p : GN × NB} (hp : N[i]? = some p) : Blk w p.2.b 67 #[slv p.2.r p.1.refs.length, slv p.2.s p.1.scal.length] := h.blk _ (g_part hp (j := 0) (by omega))
theorem g_refs (h : SepO W oo w (gparts g H lar hs N)) {i : Nat} {p : GN × NB} (hp : N[i]? = some p) : Blk w p.2.r 59 (pvs N p.1.refs) := h.blk _ (g_part hp (j := 1) (by omega))
theorem g_scal (h : SepO W oo w (gparts g H lar hs N)) {i : Nat} {p : GN × NB} (hp : N[i]? = some p) : Blk w p.2.s 28 (wds p.1.scal) := h.blk _ (g_part hp (j := 2) (by omega))
theorem bk_inj (h : SepO W oo w (gparts g H lar hs N)) {i j : Nat} (hi : i ≤ N.length) (hj : j ≤ N.length) (he : bk N i = bk N j) : i = j := by
  unfold bk at he
  by_cases hi0 : i = 0
  · by_cases hj0 : j = 0
    · rw [hi0, hj0]
    · rw [if_pos hi0, if_neg hj0, List.getElem?_eq_getElem (by omega)] at he
      simp at he
  · by_cases hj0 : j = 0
    · rw [if_neg hi0, if_pos hj0, List.getElem?_eq_getElem (by omega)] at he
      simp at he
    · rw [if_neg hi0, if_neg hj0] at he
      have e1 : N[i - 1]? = some (N[i - 1]'(by omega)) := List.getElem?_eq_getElem (by omega)
      have e2 : N[j - 1]? = some (N[j - 1]'(by omega)) := List.getElem?_eq_getElem (by omega)
      rw [e1, e2] at he
      simp at he
      by_cases hij : i - 1 = j - 1
      · omega
      · exact absurd he (h.blk_ne (3 * (i - 1) + 0 + 2) (3 * (j - 1) + 0 + 2) (g_part e1 (j := 0) (by omega)) (g_part e2 (j := 0) (by omega)) (by omega))
theorem bk_pok (h : SepO W oo w (gparts g H lar hs N)) (i : Nat) : pok w (bk N i) := by
  intro b hb
  unfold bk at hb
  split at hb
  · cases hb
  · cases he : N[i - 1]? with
    | none => rw [he] at hb; cases hb
    | some p =>
      rw [he] at hb
      simp at hb
      subst hb
      exact ⟨_, _, g_node h he⟩
theorem bk_none (h : SepO W oo w (gparts g H lar hs N)) {i : Nat} (hi : i ≤ N.length) : bk N i = none ↔ i = 0 := by
  constructor
  · intro he
    exact bk_inj h hi (Nat.zero_le _) he
  · rintro rfl; rfl
/-- What handles hold is stored. -/
theorem g_set_h (h : SepO W oo w (gparts g H lar hs N)) (i x : Nat) : SepO W oo (w.setCell ⟨H, i, none⟩ (pv N x)) (gparts g H lar (hs.set i x) N) := by
  have h1 := h.set_blk 1 rfl i (pv N x)
  rw [pvs_set] at h1
  have e : gparts g H lar (hs.set i x) N = (gparts g H lar hs N).set 1 (blkP H 59 (pvs N (hs.set i x))) := by
    unfold gparts; rw [List.length_set]; rfl
  rw [e]; exact h1
theorem g_set_r (h : SepO W oo w (gparts g H lar hs N)) {i : Nat} {p : GN × NB} (hp : N[i]? = some p) (j x : Nat) : SepO W oo (w.setCell ⟨p.2.r, j, none⟩ (pv N x)) (gparts g H lar hs (N.set i (⟨p.1.refs.set j x, p.1.scal⟩, p.2))) := by
  have h1 := h.set_blk (3 * i + 1 + 2) (g_part hp (j := 1) (by omega)) j (pv N x)
  rw [pvs_set] at h1
  have hb := bk_set (q := (⟨p.1.refs.set j x, p.1.scal⟩, p.2)) hp rfl
  have e : gparts g H lar hs (N.set i (⟨p.1.refs.set j x, p.1.scal⟩, p.2)) = (gparts g H lar hs N).set (3 * i + 1 + 2) (blkP p.2.r 59 (pvs N (p.1.refs.set j x))) := by
    unfold gparts
    rw [npl_of hb, pvs_of hb, List.set_cons_succ, List.set_cons_succ, fm_set (npl_len N) hp (by omega) (q := (⟨p.1.refs.set j x, p.1.scal⟩, p.2)) (by simp [npl])]
  rw [e]; exact h1
theorem g_set_s (h : SepO W oo w (gparts g H lar hs N)) {i : Nat} {p : GN × NB} (hp : N[i]? = some p) (j : Nat) (x : Int) : SepO W oo (w.setCell ⟨p.2.s, j, none⟩ (.int .u64 x)) (gparts g H lar hs (N.set i (⟨p.1.refs, p.1.scal.set j x⟩, p.2))) := by
  have h1 := h.set_blk (3 * i + 2 + 2) (g_part hp (j := 2) (by omega)) j (.int .u64 x)
  rw [wds_set] at h1
  have hb := bk_set (q := (⟨p.1.refs, p.1.scal.set j x⟩, p.2)) hp rfl
  have e : gparts g H lar hs (N.set i (⟨p.1.refs, p.1.scal.set j x⟩, p.2)) = (gparts g H lar hs N).set (3 * i + 2 + 2) (blkP p.2.s 28 (wds (p.1.scal.set j x))) := by
    unfold gparts
    rw [npl_of hb, pvs_of hb, List.set_cons_succ, List.set_cons_succ, fm_set (npl_len N) hp (by omega) (q := (⟨p.1.refs, p.1.scal.set j x⟩, p.2)) (by simp [npl])]
  rw [e]; exact h1
/-- A new node, of three new blocks, that a handle holds. -/
theorem g_new (hh : ∀ x ∈ hs, x ≤ N.length) (hn : ∀ p ∈ N, ∀ x ∈ p.1.refs, x ≤ N.length) {B R S k m : Nat} (h : SepO W oo w (gparts g H lar hs N ++ [blkP B 67 #[slv R k, slv S m], blkP R 59 (pvs N (List.replicate k 0)), blkP S 28 (wds (List.replicate m 0))])) (i : Nat) :
    SepO W oo (w.setCell ⟨H, i, none⟩ (.pointer (some ⟨B, 0, none⟩))) (gparts g H lar (hs.set i (N.length + 1)) (N ++ [(⟨List.replicate k 0, List.replicate m 0⟩, ⟨B, R, S⟩)])) := by
  have hq : ∀ l : List Nat, (∀ x ∈ l, x ≤ N.length) → pvs (N ++ [(⟨List.replicate k 0, List.replicate m 0⟩, ⟨B, R, S⟩)]) l = pvs N l := fun l hl => pvs_app hl
  have e : gparts g H lar hs (N ++ [(⟨List.replicate k 0, List.replicate m 0⟩, ⟨B, R, S⟩)]) = gparts g H lar hs N ++ [blkP B 67 #[slv R k, slv S m], blkP R 59 (pvs N (List.replicate k 0)), blkP S 28 (wds (List.replicate m 0))] := by
    unfold gparts
    rw [hq hs hh, List.flatMap_append]
    have e1 : N.flatMap (npl (N ++ [(⟨List.replicate k 0, List.replicate m 0⟩, ⟨B, R, S⟩)])) = N.flatMap (npl N) := by
      rw [List.flatMap_def, List.flatMap_def, List.map_congr_left (g := npl N) (fun p hp => by unfold npl; rw [hq _ (hn p hp)])]
    rw [e1]
    simp only [List.flatMap_cons, List.flatMap_nil, npl, List.append_nil, List.cons_append, List.length_replicate]
    rw [hq _ (fun x hx => by simp at hx; omega)]
  rw [← e] at h
  have h1 := g_set_h h i (N.length + 1)
  have ep : pv (N ++ [(⟨List.replicate k 0, List.replicate m 0⟩, ⟨B, R, S⟩)]) (N.length + 1) = .pointer (some ⟨B, 0, none⟩) := by simp [pv, bk, penc]
  rw [ep] at h1
  exact h1
end
end Go.Proofs.Ytoldhaomacnigaa.Gr
