/- WholeErrors as a contract. Condition: what is taken in reads as lists. -/
import Derived.Test.YtihmkkjmnbehbaaGreatMg39
import Derived.Test.YtihmkkjmnbehbaaGreatMg01
import Derived.Test.YtihmkkjmnbehbaaGreatMg43
import Derived.Test.YtihmkkjmnbehbaaGreatMg36
import Derived.Test.YtihmkkjmnbehbaaGreatMg15
import Derived.Test.YtihmkkjmnbehbaaGreatMg03
import Derived.Test.YtihmkkjmnbehbaaGreatMg04
import Derived.Test.YtihmkkjmnbehbaaGreatMg11
import Derived.Maps.Own
import Derived.Maps.OwnOps
import Derived.Maps.OwnSet
import Derived.Laws.OwnMore
import Derived.Laws.EntriesVeiled
import Derived.Deep.RegionHeld3
import Derived.Deep.RegionLaw
import Derived.Deep.RegionWith
import Derived.Deep.LoopGhost
/- What a walk through a heap meets is what a walk through its graph meets. No condition. -/
set_option linter.unusedVariables false
set_option linter.unusedSimpArgs false
namespace Go.Proofs.YtihmkkjmnbehbaaGreat.Wh
open Go.RowKit Go.Proofs.YtihmkkjmnbehbaaGreat.W
/-- A place, where a node's object is now. -/
def At (m : Mp) (R : Nat → Prop) (a : Int) (q : Nat) : Prop := q ≠ 0 ∧ R q ∧ ∃ p, m a = some p ∧ p.way = a ∧ p.id = q
/-- Places for nodes, one for one. -/
structure Pl (m : Mp) (R : Nat → Prop) (P : List Int) (L : List Nat) : Prop where
  len : P.length = L.length
  at_ : ∀ (i : Nat) (a : Int) (q : Nat), P[i]? = some a → L[i]? = some q → At m R a q
section
variable {S : CS} {m : Mp} {R : Nat → Prop} {G : Gr.GS} {P : List Int} {L : List Nat}
theorem Good.nowD (h : Good S m R G) {v : Int} {q : Nat} (d : Den m R v q) : (S.now v = 0 ∧ q = 0) ∨ (S.now v ≠ 0 ∧ At m R (S.now v) q) := by
  have g := h.inv.geo
  rcases d with ⟨rfl, rfl⟩ | ⟨h1, h2, p, hp, hi⟩
  · left; exact ⟨by unfold CS.now; rw [if_pos (.inl rfl)], rfl⟩
  · right
    have ne : ∀ {a : Int} {p : OR}, m a = some p → a ≠ 0 := fun ha e => by rw [e, g.nz] at ha; cases ha
    rw [h.inv.now hp]
    rcases g.way v p hp with hw | ⟨_, _, ⟨q', k1, k2, k3⟩ | ⟨_, nR⟩⟩
    · rw [hw]; exact ⟨ne hp, h1, h2, p, hp, hw, hi⟩
    · exact ⟨ne k1, h1, h2, q', k1, k2, k3.trans hi⟩
    · exact (nR (hi ▸ h2)).elim
theorem Good.atOne (h : Good S m R G) {a b : Int} {q : Nat} (ha : At m R a q) (hb : At m R b q) : a = b := by
  obtain ⟨_, _, p, p1, p2, p3⟩ := ha
  obtain ⟨_, _, r, r1, r2, r3⟩ := hb
  exact h.inv.geo.uniq a b p r p1 r1 p2 r2 (p3.trans r3.symm)
theorem At.fn {a : Int} {q q' : Nat} (ha : At m R a q) (hb : At m R a q') : q = q' := by
  obtain ⟨_, _, p, p1, p2, p3⟩ := ha
  obtain ⟨_, _, r, r1, r2, r3⟩ := hb
  rw [p1] at r1; cases r1
  exact p3.symm.trans r3
theorem Pl.nil : Pl m R [] [] := ⟨rfl, fun i a q h => by simp at h⟩
theorem Pl.both (pl : Pl m R P L) {i : Nat} {a : Int} (h : P[i]? = some a) : ∃ q, L[i]? = some q ∧ At m R a q := by
  have hl := (List.getElem?_eq_some_iff.1 h).1
  have e : L[i]? = some (L[i]'(by have := pl.len; omega)) := List.getElem?_eq_getElem _
  exact ⟨_, e, pl.at_ i a _ h e⟩
theorem Pl.back (pl : Pl m R P L) {i : Nat} {q : Nat} (h : L[i]? = some q) : ∃ a, P[i]? = some a ∧ At m R a q := by
  have hl := (List.getElem?_eq_some_iff.1 h).1
  have e : P[i]? = some (P[i]'(by have := pl.len; omega)) := List.getElem?_eq_getElem _
  exact ⟨_, e, pl.at_ i _ q e h⟩
theorem Pl.mem (h : Good S m R G) (pl : Pl m R P L) {a : Int} {q : Nat} (ha : At m R a q) : a ∈ P ↔ q ∈ L := by
  constructor
  · intro hm
    obtain ⟨i, hi⟩ := List.mem_iff_getElem?.1 hm
    obtain ⟨q', h1, h2⟩ := pl.both hi
    rw [ha.fn h2]; exact List.mem_of_getElem? h1
  · intro hm
    obtain ⟨i, hi⟩ := List.mem_iff_getElem?.1 hm
    obtain ⟨a', h1, h2⟩ := pl.back hi
    rw [h.atOne ha h2]; exact List.mem_of_getElem? h1
theorem Pl.add (pl : Pl m R P L) {a : Int} {q : Nat} (ha : At m R a q) : Pl m R (P ++ [a]) (L ++ [q]) := by
  have hl := pl.len
  refine ⟨by simp [hl], fun i b r hb hr => ?_⟩
  by_cases hi : i < P.length
  · rw [List.getElem?_append_left hi] at hb
    rw [List.getElem?_append_left (by omega)] at hr
    exact pl.at_ i b r hb hr
  · rw [List.getElem?_append_right (by omega)] at hb hr
    rw [hl] at hb
    have e : i - L.length = 0 := by
      rcases Nat.eq_zero_or_pos (i - L.length) with e | e
      · exact e
      · rw [List.getElem?_eq_none (by simp; omega)] at hb; cases hb
    rw [e] at hb hr
    simp at hb hr
    subst hb hr
    exact ha
/-- Something is met. -/
theorem Pl.meet (h : Good S m R G) (pl : Pl m R P L) {v : Int} {q : Nat} (d : Den m R v q) : Pl m R (if S.now v = 0 ∨ S.now v ∈ P then P else P ++ [S.now v]) (if q = 0 ∨ q ∈ L then L else L ++ [q]) := by
  rcases h.nowD d with ⟨e1, e2⟩ | ⟨e1, e2⟩
  · rw [if_pos (.inl e1), if_pos (.inl e2)]; exact pl
  · have := pl.mem h e2
    by_cases hm : S.now v ∈ P
    · rw [if_pos (.inr hm), if_pos (.inr (this.1 hm))]; exact pl
    · rw [if_neg (fun hh => hh.elim e1 hm), if_neg (fun hh => hh.elim e2.1 (fun x => hm (this.2 x)))]
      exact pl.add e2
/-- Where something stands in a list; -1: nowhere. -/
def ixOf (P : List Int) (a : Int) : Int := if a ∈ P then (P.idxOf a : Int) else -1
theorem Pl.idx (h : Good S m R G) {a : Int} {q : Nat} (ha : At m R a q) : ∀ {P : List Int} {L : List Nat}, Pl m R P L → P.idxOf a = L.idxOf q := by
  intro P
  induction P with
  | nil =>
    intro L pl
    have := pl.len
    cases L with
    | nil => rfl
    | cons => simp at this
  | cons b r ih =>
    intro L pl
    cases L with
    | nil => have := pl.len; simp at this
    | cons s t =>
      have hb := pl.at_ 0 b s rfl rfl
      have pl' : Pl m R r t := ⟨by have := pl.len; simpa using this, fun i c u hc hu => pl.at_ (i + 1) c u hc hu⟩
      have hi := ih pl'
      have key : (b = a) ↔ (s = q) := ⟨fun e => by subst e; exact hb.fn ha, fun e => by subst e; exact h.atOne hb ha⟩
      rw [List.idxOf_cons, List.idxOf_cons, hi]
      by_cases e : b = a
      · have e2 := key.1 e
        rw [show (b == a) = true from by simpa using e, show (s == q) = true from by simpa using e2]
      · have e2 : ¬ s = q := fun x => e (key.2 x)
        rw [show (b == a) = false from by simpa using e, show (s == q) = false from by simpa using e2]
theorem Pl.num (h : Good S m R G) (pl : Pl m R P L) {v : Int} {q : Nat} (d : Den m R v q) : ixOf P (S.now v) + 1 = ((Gr.num L q : Nat) : Int) := by
  unfold ixOf Gr.num
  rcases h.nowD d with ⟨e1, e2⟩ | ⟨e1, e2⟩
  · have n1 : ¬ S.now v ∈ P := fun hm => by
      obtain ⟨i, hi⟩ := List.mem_iff_getElem?.1 hm
      obtain ⟨q', _, _, _, p, hp, _⟩ := pl.both hi
      rw [e1, h.inv.geo.nz] at hp; cases hp
    have n2 : ¬ q ∈ L := fun hm => by
      obtain ⟨i, hi⟩ := List.mem_iff_getElem?.1 hm
      obtain ⟨a', _, hne, _⟩ := pl.back hi
      exact hne e2
    rw [if_neg n1, if_neg n2]; rfl
  · have hm := pl.mem h e2
    by_cases x : S.now v ∈ P
    · rw [if_pos x, if_pos (hm.1 x), Pl.idx h e2 pl]; rfl
    · rw [if_neg x, if_neg (fun y => x (hm.2 y))]; rfl
/-- What stands at a place. -/
theorem Good.atNode (h : Good S m R G) {a : Int} {q : Nat} (ha : At m R a q) : (S.hd a).ptrs = (Gr.nod G q).refs.length ∧ (S.hd a).size = (Gr.nod G q).refs.length + (Gr.nod G q).scal.length ∧
    (∀ k : Nat, k < (Gr.nod G q).refs.length → Den m R (S.ref a k) (rf G q k)) ∧ (∀ k : Nat, k < (Gr.nod G q).scal.length → Ob.ldW S.ws (Ob.placeOf a ((S.hd a).ptrs + k)) = sc G q k) ∧ q ≤ G.nodes.length := by
  obtain ⟨_, hR, p, hp, hw, hi⟩ := ha
  have nd := h.inv.sim.node a p hp (by rw [hi]; exact hR) hw
  have gd := (h.inv.geo.rep.at_ a p hp).good
  unfold Hea.Hd.good at gd
  have e := h.inv.hd hp
  have pt := nd.ptrs
  have sz := nd.size
  have rf := nd.refs
  have scl := nd.scal
  rw [hi] at pt sz rf scl
  refine ⟨by rw [e]; exact pt, by rw [e]; exact sz, fun k hk => ?_, fun k hk => ?_, by rw [← hi]; exact (h.inv.geo.idb a p hp).2⟩
  · have := h.inv.ref hp (n := (k : Int)) (by omega) (by omega) (by have := h.inv.mn.refs a p hp hw k (by omega); simpa using this)
    rw [this]
    exact rf k hk
  · rw [e, h.inv.fld hp (n := p.hd.ptrs + k) (by omega) (by omega)]
    rw [← scl k hk]
    congr 1
    omega
end
end Go.Proofs.YtihmkkjmnbehbaaGreat.Wh
/- Maps of the call's own, as lists of keys and values; parts of memory. No condition. -/
set_option linter.unusedVariables false
set_option linter.unusedSimpArgs false
namespace Go.Proofs.YtihmkkjmnbehbaaGreat.W
open Go.RowKit Go.ChangeMaps Go.MapKept

section
variable {κ : Type} [DecidableEq κ]
/-- What a list of entries has at a key. -/
def mget (al : List (κ × Value)) (k : κ) : Option Value := match al with
  | [] => none
  | p :: r => if k = p.1 then some p.2 else mget r k
/-- .. and where. -/
def mgetI (al : List (κ × Value)) (k : κ) (i : Nat) : Option (Nat × Value) := match al with
  | [] => none
  | p :: r => if k = p.1 then some (i, p.2) else mgetI r k (i + 1)
/-- An entry is set. -/
def mput (al : List (κ × Value)) (k : κ) (v : Value) : List (κ × Value) := match al with
  | [] => [(k, v)]
  | p :: r => if k = p.1 then (k, v) :: r else p :: mput r k v
theorem mgetI_map (al : List (κ × Value)) (k : κ) (i : Nat) : (mgetI al k i).map (·.2) = mget al k := by
  induction al generalizing i with
  | nil => rfl
  | cons p r ih => unfold mgetI mget; split <;> simp [ih]
theorem mgetI_some {al : List (κ × Value)} {k : κ} {i j : Nat} {v : Value} (h : mgetI al k i = some (j, v)) : ∃ n, j = i + n ∧ al[n]? = some (k, v) ∧ ∀ u, mput al k u = al.set n (k, u) := by
  induction al generalizing i with
  | nil => cases h
  | cons p r ih =>
    unfold mgetI at h
    split at h
    · rename_i hk
      simp at h
      obtain ⟨rfl, rfl⟩ := h
      exact ⟨0, by simp, by simp [hk], fun u => by simp [mput, hk]⟩
    · rename_i hk
      obtain ⟨n, e1, e2, e3⟩ := ih h
      exact ⟨n + 1, by omega, by simpa using e2, fun u => by simp [mput, hk, e3]⟩
theorem mgetI_none {al : List (κ × Value)} {k : κ} {i : Nat} (h : mgetI al k i = none) : ∀ u, mput al k u = al ++ [(k, u)] := by
  induction al generalizing i with
  | nil => intro u; rfl
  | cons p r ih =>
    unfold mgetI at h
    split at h
    · cases h
    · rename_i hk
      intro u
      simp [mput, hk, ih h]
theorem mget_put_same (al : List (κ × Value)) (k : κ) (v : Value) : mget (mput al k v) k = some v := by
  induction al with
  | nil => simp [mput, mget]
  | cons p r ih => unfold mput; split <;> simp_all [mget]
theorem mget_put_other (al : List (κ × Value)) {k j : κ} (h : j ≠ k) (v : Value) : mget (mput al k v) j = mget al j := by
  induction al with
  | nil => simp [mput, mget, h]
  | cons p r ih =>
    unfold mput
    split
    · rename_i hk; subst hk; simp [mget, h]
    · simp [mget, ih]
theorem len_mput (al : List (κ × Value)) (k : κ) (v : Value) : (mput al k v).length = al.length + (if (mget al k).isSome then 0 else 1) := by
  induction al with
  | nil => simp [mput, mget]
  | cons p r ih =>
    unfold mput mget
    split
    · simp
    · simp [ih]; omega

/-- Keys of one kind: how they are written, and that the model finds them. -/
structure KeyKind (P : Program) (kt : TypeId) (κ : Type) [DecidableEq κ] where
  enc : κ → Value
  check : ∀ (w : World) (e : Bool) (k : κ), (Instr.checkKey e 10000 kt (enc k)).run P w = .ok () w
  find : ∀ (w : World) (k : κ) (es : List MapEntry) (al : List (κ × Value)), es.map (fun e => (e.key, e.val)) = al.map (fun p => (enc p.1, p.2)) → (Instr.findKey kt (enc k) es).run P w = .ok (mgetI al k 0) w
  stays : ∀ (w : World) (k : κ), (Instr.keyThatStays (enc k) (enc k)).run P w = .ok (enc k) w

/-- Block g is a map that has just the entries of a list. -/
def Mp {P : Program} {kt : TypeId} (K : KeyKind P kt κ) (w : World) (g : Nat) (al : List (κ × Value)) : Prop :=
  ∃ es clock, w.heap[g]? = some (.map es clock) ∧ es.toList.map (fun e => (e.key, e.val)) = al.map (fun p => (K.enc p.1, p.2))
section
variable {P : Program} {kt : TypeId} {K : KeyKind P kt κ} {w w' : World} {g : Nat} {al : List (κ × Value)}
theorem Mp.lt (h : Mp K w g al) : g < w.heap.size := by
  obtain ⟨es, c, h, _⟩ := h
  exact (Array.getElem?_eq_some_iff.1 h).1
theorem Mp.same (h : Mp K w g al) (hw : w'.heap[g]? = w.heap[g]?) : Mp K w' g al := by
  obtain ⟨es, c, h1, h2⟩ := h
  exact ⟨es, c, hw.trans h1, h2⟩
theorem Mp.made (K : KeyKind P kt κ) (w : World) : Mp K (w.alloc (.map #[] 0)) w.heap.size [] := ⟨#[], 0, by unfold World.alloc; simp, rfl⟩
theorem Mp.size (h : Mp K w g al) : ∃ es c, w.heap[g]? = some (.map es c) ∧ es.size = al.length := by
  obtain ⟨es, c, h1, h2⟩ := h
  refine ⟨es, c, h1, ?_⟩
  have := congrArg List.length h2
  simpa using this
theorem Mp.run_lookup (h : Mp K w g al) {t e : TypeId} (ht : P.underlying t = some (.map kt e)) {z : Value} (hz : ∀ w, (zeroValue e).run P w = .ok z w) (k : κ) :
    (Instr.lookup t (.map (some g)) (K.enc k) false).run P w = .ok ((mget al k).getD z) w := by
  obtain ⟨es, c, h1, h2⟩ := h
  have hf := K.find w k es.toList al h2
  have hl := mgetI_map al k 0
  simp only [Instr.lookup, Sem.run_bind, run_underlying ht, Result.andThen_ok, MapKept.run_getObj_map h1, Sem.run_pure, K.check w es.isEmpty k, hf]
  cases hi : mgetI al k 0 with
  | none =>
    rw [hi] at hl
    simp only [Option.map_none] at hl
    rw [← hl]
    simp [hz, Result.andThen]
  | some p =>
    obtain ⟨i, v⟩ := p
    rw [hi] at hl
    simp only [Option.map_some] at hl
    rw [← hl]
    simp [Result.andThen]
theorem Mp.run_lookup_ok (h : Mp K w g al) {t e : TypeId} (ht : P.underlying t = some (.map kt e)) {z : Value} (hz : ∀ w, (zeroValue e).run P w = .ok z w) (k : κ) :
    (Instr.lookup t (.map (some g)) (K.enc k) true).run P w = .ok (.tuple #[(mget al k).getD z, .bool (mget al k).isSome]) w := by
  obtain ⟨es, c, h1, h2⟩ := h
  have hf := K.find w k es.toList al h2
  have hl := mgetI_map al k 0
  simp only [Instr.lookup, Sem.run_bind, run_underlying ht, Result.andThen_ok, MapKept.run_getObj_map h1, Sem.run_pure, K.check w es.isEmpty k, hf]
  cases hi : mgetI al k 0 with
  | none =>
    rw [hi] at hl
    simp only [Option.map_none] at hl
    rw [← hl]
    simp [hz, Result.andThen]
  | some p =>
    obtain ⟨i, v⟩ := p
    rw [hi] at hl
    simp only [Option.map_some] at hl
    rw [← hl]
    simp [Result.andThen]
theorem Mp.run_len (h : Mp K w g al) {t e : TypeId} (ht : P.underlying t = some (.map kt e)) (ty : TypeId) : (Builtin.len_ #[t] ty #[.map (some g)]).run P w = .ok (.int .i64 al.length) w := by
  obtain ⟨es, c, h1, h2⟩ := h.size
  simp [Builtin.len_, run_underlying ht, MapKept.run_getObj_map h1, Result.andThen, h2, goInt]
theorem Mp.run_update (h : Mp K w g al) {t e : TypeId} (ht : P.underlying t = some (.map kt e)) (k : κ) (v : Value) :
    ∃ w', (Instr.mapUpdate t (.map (some g)) (K.enc k) v).run P w = .ok () w' ∧ Mp K w' g (mput al k v) ∧ Keep (fun i => i = g) w w' := by
  obtain ⟨es, c, h1, h2⟩ := h
  have hf := K.find w k es.toList al h2
  have hkeep : ∀ o, Keep (fun i => i = g) w { w with heap := w.heap.setIfInBounds g o } := fun o =>
    ⟨rfl, rfl, rfl, by simp, fun i hi hn => by simp [Array.getElem?_setIfInBounds, Ne.symm hn]⟩
  have hg : g < w.heap.size := (Array.getElem?_eq_some_iff.1 h1).1
  cases hi : mgetI al k 0 with
  | none =>
    rw [hi] at hf
    refine ⟨{ w with heap := w.heap.setIfInBounds g (.map (es.push { key := K.enc k, val := v, born := c }) (c + 1)) }, ?_, ⟨_, _, by simp only [Array.getElem?_setIfInBounds, if_true, hg]; rfl, ?_⟩, hkeep _⟩
    · simp [Instr.mapUpdate, run_underlying ht, MapKept.run_getObj_map h1, K.check w false k, hf, MapKept.run_setObj_map _ h1, Result.andThen]
    · rw [mgetI_none hi v]
      simp [h2]
  | some p =>
    obtain ⟨i, u⟩ := p
    rw [hi] at hf
    obtain ⟨n, e1, e2, e3⟩ := mgetI_some hi
    simp at e1
    subst e1
    have hlen : es.size = al.length := by simpa using congrArg List.length h2
    have hil : i < es.size := by rw [hlen]; exact (List.getElem?_eq_some_iff.1 e2).1
    have hk : es[i].key = K.enc k := by
      have := congrArg (fun l => l[i]?) h2
      simp [e2, hil] at this
      exact this.1
    refine ⟨{ w with heap := w.heap.setIfInBounds g (.map (es.modify i fun e => { e with key := K.enc k, val := v }) c) }, ?_, ⟨_, _, by simp only [Array.getElem?_setIfInBounds, if_true, hg]; rfl, ?_⟩, hkeep _⟩
    · simp [Instr.mapUpdate, run_underlying ht, MapKept.run_getObj_map h1, K.check w false k, hf, hil, hk, K.stays w k, MapKept.run_setObj_map _ h1, Result.andThen]
    · rw [e3 v]
      apply List.ext_getElem?
      intro j
      have hj := congrArg (fun l => l[j]?) h2
      simp only [List.getElem?_map, Array.getElem?_toList] at hj
      simp only [List.getElem?_map, Array.getElem?_toList, Array.getElem?_modify, List.getElem?_set]
      by_cases hij : i = j
      · subst hij
        simp [hil, hlen ▸ hil]
      · simp [hij, hj]
/-- A map as a part. -/
def mapP (K : KeyKind P kt κ) (g : Nat) (al : List (κ × Value)) : Pr :=
  ⟨fun w o => o g ∧ Mp K w g al, fun h k hn => ⟨h.1, h.2.same (k.block _ h.2.lt (fun x => hn _ h.1 x))⟩, fun h hs => ⟨hs _ h.1, h.2⟩, fun h => ⟨⟨h.1, h.2.lt⟩, h.2⟩⟩
variable {W : World} {oo : Nat → Prop} {l : List Pr}
theorem SepO.mp (h : SepO W oo w l) (k : Nat) (hk : l[k]? = some (mapP K g al)) : Mp K w g al := by obtain ⟨o, h1, _⟩ := h.get k hk; exact h1.2
theorem SepO.new_map (h : SepO W oo w l) (K : KeyKind P kt κ) : SepO W oo (w.alloc (.map #[] 0)) (l ++ [mapP K w.heap.size []]) := h.add (P := mapP K w.heap.size []) ((Keep.refl _ _).alloc _) ⟨Nat.le_refl _, Mp.made K w⟩
theorem SepO.update (h : SepO W oo w l) (k : Nat) (hk : l[k]? = some (mapP K g al)) {t e : TypeId} (ht : P.underlying t = some (.map kt e)) (x : κ) (v : Value) :
    ∃ w', (Instr.mapUpdate t (.map (some g)) (K.enc x) v).run P w = .ok () w' ∧ SepO W oo w' (l.set k (mapP K g (mput al x v))) := by
  obtain ⟨o, ⟨h1, h2⟩, _, hup⟩ := h.open0 k hk
  obtain ⟨w', hr, hm, hkk⟩ := h2.run_update ht x v
  exact ⟨w', hr, hup w' (mapP K g _) ⟨h1, hm⟩ (hkk.mono (fun i hi => .inl (hi ▸ h1)))⟩
/-- 'm[k] = v' as one step of a walk. -/
theorem wpList_update_sep {ops : Array Oper} {rest : List Oper} {o : Oper} {a : Act} {Q : Exit → Act → World → Prop} (hgd : o.guard = none) (m x v : Operand) (t : TypeId) (hop : o.op = Op.mapUpdate t m x v)
    {e : TypeId} (ht : P.underlying t = some (.map kt e)) (h : SepO W oo w l) (k : Nat) (hk : l[k]? = some (mapP K g al)) (key : κ) (val : Value) (hm : a.eval m = .map (some g)) (hx : a.eval x = K.enc key) (hv : a.eval v = val)
    (hw : ∀ w', SepO W oo w' (l.set k (mapP K g (mput al key val))) → wpList P ops Q rest (a.put o.dst undef) w') : wpList P ops Q (o :: rest) a w := by
  refine wpList_plain hgd fun K' hK' => ?_
  obtain ⟨w', hr, h'⟩ := h.update k hk ht key val
  unfold Oper.wp
  simp [execOp, hop, hm, hx, hv, hr, Result.andThen]
  exact hK' _ _ (hw w' h')
/-- 'm[k]' as one step of a walk. -/
theorem wpList_lookup_sep {ops : Array Oper} {rest : List Oper} {o : Oper} {a : Act} {Q : Exit → Act → World → Prop} (hgd : o.guard = none) (m x : Operand) (t : TypeId) (hop : o.op = Op.lookup t m x false)
    {e : TypeId} (ht : P.underlying t = some (.map kt e)) {z : Value} (hz : ∀ w, (zeroValue e).run P w = .ok z w) (h : Mp K w g al) (key : κ) (hm : a.eval m = .map (some g)) (hx : a.eval x = K.enc key)
    (hw : wpList P ops Q rest (a.put o.dst ((mget al key).getD z)) w) : wpList P ops Q (o :: rest) a w := by
  refine wpList_plain hgd fun K' hK' => ?_
  have hr := h.run_lookup ht hz key
  unfold Oper.wp
  simp [execOp, hop, hm, hx, hr, Result.andThen]
  exact hK' _ _ hw
end
end

/-- Whole numbers as keys. -/
def intKeys (P : Program) (kt : TypeId) (k : IntKind) (hk : P.underlying kt = some (.int k)) : KeyKind P kt Int where
  enc := fun n => .int k n
  check := fun w e n => run_checkKey hk (by simp [IsKey]) e 9999
  find := fun w n es al h => by
    refine run_findKey hk ?_
    have : ∀ (es : List MapEntry) (al : List (Int × Value)) (i : Nat), es.map (fun e => (e.key, e.val)) = al.map (fun p => (Value.int k p.1, p.2)) → Instr.findNow (.int k) (.int k n) es i = some (mgetI al n i) := by
      intro es
      induction es with
      | nil =>
        intro al i h
        cases al with
        | nil => rfl
        | cons _ _ => simp at h
      | cons x xs ih =>
        intro al i h
        cases al with
        | nil => simp at h
        | cons y ys =>
          simp only [List.map_cons, List.cons.injEq, Prod.mk.injEq] at h
          obtain ⟨⟨h1, h2⟩, h3⟩ := h
          unfold Instr.findNow
          rw [h1]
          simp only [Instr.sameNow, if_true]
          by_cases hn : n = y.1
          · subst hn; simp [mgetI, h2]
          · have : (n == y.1) = false := by simpa using hn
            rw [this]
            simp only [mgetI, if_neg hn]
            exact ih ys (i + 1) h3
    exact this es al 0 h
  stays := fun w n => run_keyThatStays (d := .int k) (by simp [IsKey])
end Go.Proofs.YtihmkkjmnbehbaaGreat.W
/- Something is met, on a walk through a heap: the walk of the closure. No condition. -/
set_option linter.unusedVariables false
set_option linter.unusedSimpArgs false
namespace Go.Proofs.YtihmkkjmnbehbaaGreat.Wh
open Go.RowKit Go.Proofs.YtihmkkjmnbehbaaGreat.W Go.Proofs.YtihmkkjmnbehbaaGreat.Sm
def iK : KeyKind Tryz.prog 3 Int := intKeys Tryz.prog 3 .i64 Tryz.underlying3
theorem zero_b (w : World) : (zeroValue 4).run Tryz.prog w = .ok (.bool false) w := by kernel_rfl
/-- The map of what was met. -/
def MR (al : List (Int × Value)) (P : List Int) : Prop := ∀ x : Int, mget al x = if x = 0 ∨ x ∈ P then some (.bool true) else none
theorem MR.add {al : List (Int × Value)} {P : List Int} (h : MR al P) (a : Int) : MR (mput al a (.bool true)) (P ++ [a]) := by
  intro x
  by_cases e : x = a
  · subst e; rw [mget_put_same, if_pos (.inr (by simp))]
  · rw [mget_put_other _ e, h x]
    by_cases hx : x = 0 ∨ x ∈ P
    · rw [if_pos hx, if_pos (hx.imp_right (fun h => by simp [h]))]
    · rw [if_neg hx, if_neg (fun q => by
        rcases q with q | q
        · exact hx (.inl q)
        · rcases List.mem_append.1 q with q | q
          · exact hx (.inr q)
          · exact e (List.mem_singleton.1 q))]
/-- What a walk keeps: where things are now, what was met, those that were met in order. -/
def mt (k : CK) (F M mg O : Nat) (al : List (Int × Value)) (A : Option Addr) (c : Nat) (P : List Int) : List Pr :=
  [blkP F 109 #[.func (.func 60) #[pt k.c] #[]], blkP M 108 #[.map (some mg)], mapP iK mg al, blkP O 53 #[.slice A P.length c], rowP 3 A P.length c (P.map (Value.int .i64))]
section
variable {W w : World} {oo : Nat → Prop} {k : CK} {S : CS} {l m : List Pr} {F M mg O : Nat} {al : List (Int × Value)} {A : Option Addr} {c : Nat} {P : List Int}
theorem mt_ix (i : Nat) : (cparts k S ++ (l ++ m))[8 + l.length + i]? = m[i]? := by
  rw [List.getElem?_append_right (by simp [cparts]; omega), List.getElem?_append_right (by simp [cparts]; omega)]
  congr 1
  simp [cparts]; omega
theorem mt_set (i : Nat) (Q : Pr) : (cparts k S ++ (l ++ m)).set (8 + l.length + i) Q = cparts k S ++ (l ++ m.set i Q) := by
  rw [List.set_append_right _ _ (by simp [cparts]; omega), List.set_append_right _ _ (by simp [cparts]; omega)]
  congr 3
  simp [cparts]; omega
theorem mt_at (h : SepO W oo w (cparts k S ++ (l ++ mt k F M mg O al A c P))) : w.cell? ⟨F, 0, none⟩ = some (.func (.func 60) #[pt k.c] #[]) ∧ w.cell? ⟨M, 0, none⟩ = some (.map (some mg)) ∧ w.cell? ⟨O, 0, none⟩ = some (.slice A P.length c) ∧ (∀ j, w.frozen? ⟨O, j, none⟩ = false) ∧ F < w.heap.size ∧ M < w.heap.size ∧ O < w.heap.size := by
  have b0 := h.blk (g := F) (t := 109) (cs := #[.func (.func 60) #[pt k.c] #[]]) (8 + l.length + 0) (mt_ix 0)
  have b1 := h.blk (g := M) (t := 108) (cs := #[.map (some mg)]) (8 + l.length + 1) (mt_ix 1)
  have b3 := h.blk (g := O) (t := 53) (cs := #[.slice A P.length c]) (8 + l.length + 3) (mt_ix 3)
  exact ⟨b0.cell 0, b1.cell 0, b3.cell 0, b3.frozen, b0.lt, b1.lt, b3.lt⟩
set_option maxHeartbeats 2000000 in
theorem meet_in (v : Int) (hv : I64 v) (hM : MR al P) (hP : P.length ≤ 100000) (h : SepO W oo w (cparts k S ++ (l ++ mt k F M mg O al A c P))) : Calls Tryz.prog 61 #[.int .i64 v, pt F, pt M, pt O] w fun e w' => e = .returned (.tuple #[]) ∧ ∃ al' A' c', MR al' (if S.now v = 0 ∨ S.now v ∈ P then P else P ++ [S.now v]) ∧ SepO W oo w' (cparts k S ++ (l ++ mt k F M mg O al' A' c' (if S.now v = 0 ∨ S.now v ∈ P then P else P ++ [S.now v]))) := by
  obtain ⟨f0, m0, o0, of_, fl, ml, ol⟩ := mt_at h
  obtain ⟨x, hx⟩ : ∃ x, S.now v = x := ⟨_, rfl⟩
  have hxb : I64 x := hx ▸ now_b S hv
  have hN := Now_in v hv h
  rw [hx] at hN ⊢
  have HN := Lib.hid hN
  have H := Lib.hid h
  have HM := Lib.hid hM
  clear h hN hM
  by_cases hm : x = 0 ∨ x ∈ P
  · rw [if_pos hm]
    have hg : mget al x = some (.bool true) := by rw [HM.out x, if_pos hm]
    have HG := Lib.hid hg
    clear hg hm hx
    go_enter Tryz.func61, Tryz.ntmps61
    go_wp2_with fail
    refine HN.out.mono ?_
    rintro e w1 ⟨rfl, h1⟩
    obtain ⟨f0, m0, o0, of_, fl, ml, ol⟩ := mt_at h1
    have hlook := Mp.run_lookup (h1.mp (8 + l.length + 2) (mt_ix 2)) Tryz.underlying108 zero_b x
    rw [HG.out] at hlook
    replace hlook : (Instr.lookup 108 (.map (some mg)) (.int .i64 x) false).run Tryz.prog w1 = .ok (.bool true) w1 := hlook
    have H1 := Lib.hid h1
    clear h1 H HN HG
    go_wp2_with fail
    go_end0
    exact ⟨rfl, al, A, c, HM.out, H1.out⟩
  · rw [if_neg hm]
    have hg : mget al x = none := by rw [HM.out x, if_neg hm]
    have HG := Lib.hid hg
    have HM2 := Lib.hid (HM.out.add x)
    obtain ⟨i, hi, hz, hs', hby⟩ := info_parts Sm.info_int
    clear hg hm hx
    go_enter Tryz.func61, Tryz.ntmps61
    go_wp2_with fail
    refine HN.out.mono ?_
    rintro e w1 ⟨rfl, h1⟩
    obtain ⟨f0, m0, o0, of_, fl, ml, ol⟩ := mt_at h1
    have hlook := Mp.run_lookup (h1.mp (8 + l.length + 2) (mt_ix 2)) Tryz.underlying108 zero_b x
    rw [HG.out] at hlook
    replace hlook : (Instr.lookup 108 (.map (some mg)) (.int .i64 x) false).run Tryz.prog w1 = .ok (.bool false) w1 := hlook
    have H1 := Lib.hid h1
    clear h1 H HN HG
    go_wp2_with (at_mapUpdate; refine wpList_update_sep rfl _ _ _ 108 rfl Tryz.underlying108 H1.out (8 + l.length + 2) (mt_ix 2) x (.bool true) rfl rfl rfl ?_)
    intro w2 h2
    rw [mt_set] at h2
    replace h2 : SepO W oo w2 (cparts k S ++ (l ++ mt k F M mg O (mput al x (.bool true)) A c P)) := h2
    obtain ⟨f0, m0, o0, of_, fl, ml, ol⟩ := mt_at h2
    have H2 := Lib.hid h2
    clear h2 H1 hlook
    go_wp2_with (at_builtin; refine wpList_append_sep rfl _ _ 53 rfl 3 i (.int .i64 0) 8 Tryz.underlying53 hi hz hs' hby rfl A P.length c (P.map (Value.int .i64)) rfl w2.heap.size (.int .i64 x) rfl (H2.out.alloc _) (8 + l.length + 4) (mt_ix 4) ?c1 rfl ?c2 ?c3 ?_)
    case c1 => exact (Blk.new _ _ _).cell 0
    case c2 => omega
    case c3 => omega
    intro A3 c3 w3 h3
    rw [mt_set] at h3
    have bO := h3.blk (g := O) (t := 53) (cs := #[.slice A P.length c]) (8 + l.length + 3) (mt_ix 3)
    have o0 : w3.cell? ⟨O, 0, none⟩ = some (.slice A P.length c) := bO.cell 0
    have of_ := bO.frozen
    have ol := bO.lt
    have H3 := Lib.hid h3
    clear h3 H2
    go_wp2_with fail
    go_end0
    refine ⟨rfl, mput al x (.bool true), A3, c3, HM2.out, ?_⟩
    have h4 := H3.out.set_blk (g := O) (t := 53) (cs := #[.slice A P.length c]) (8 + l.length + 3) (mt_ix 3) 0 (.slice A3 (P.length + 1) c3)
    rw [mt_set] at h4
    have e : (P ++ [x]).length = P.length + 1 := by simp
    simp only [mt, List.map_append, List.map_cons, List.map_nil, e]
    exact h4
end
end Go.Proofs.YtihmkkjmnbehbaaGreat.Wh
/- A row of elements of several cells, of the call's own, as a part of memory. No condition. -/
set_option linter.unusedVariables false
set_option linter.unusedSimpArgs false
namespace Go.Proofs.YtihmkkjmnbehbaaGreat.W
open Go.RowKit
section
variable {w w' : World} {e : TypeId} {s : Nat} {v : Value} {n : Nat} {xs : List Value}
theorem own_same (h : w.ownsRow 0 e s v n xs) (hb : ∀ g, v.ownBlock = some g → w'.heap[g]? = w.heap[g]?) : w'.ownsRow 0 e s v n xs := by
  refine ⟨h.1, ?_⟩
  rcases h.2 with h | ⟨g, cap, cur, hv, hbg, hg, r⟩
  · exact .inl h
  · exact .inr ⟨g, cap, cur, hv, hbg, (hb g (by rw [hv]; rfl)).trans hg, r⟩
/-- A row whose elements have s cells each. -/
def rowK (e : TypeId) (s : Nat) (v : Value) (n : Nat) (xs : List Value) : Pr :=
  ⟨fun w o => w.ownsRow 0 e s v n xs ∧ ∀ g, v.ownBlock = some g → o g,
   fun h k hn => ⟨own_same h.1 (fun g hg => k.block g (h.1.lt g hg).2 (fun x => hn g (h.2 g hg) x)), h.2⟩,
   fun h hs => ⟨h.1, fun g hg => hs g (h.2 g hg)⟩,
   fun h => ⟨h.1, fun g hg => ⟨h.2 g hg, (h.1.lt g hg).2⟩⟩⟩
theorem own_form (h : w.ownsRow 0 e s v n xs) : ∃ A c, v = .slice A n c ∧ n ≤ c ∧ c ≤ 9223372036854775807 ∧ (0 < n → ∃ g, A = some ⟨g, 0, none⟩) := by
  rcases h.2 with ⟨rfl, rfl⟩ | ⟨g, cap, cur, rfl, _, _, h1, h2, _⟩
  · exact ⟨none, 0, rfl, by omega, by omega, by omega⟩
  · unfold maxLen at h2; exact ⟨_, _, rfl, h1, by omega, fun _ => ⟨g, rfl⟩⟩
end
section
variable {W w : World} {oo : Nat → Prop} {l : List Pr} {e : TypeId} {s : Nat} {v : Value} {n : Nat} {xs : List Value}
/-- The last parts, some of them, in another order. -/
theorem SepO.tail_pick {m : List Pr} (h : SepO W oo w (l ++ m)) (σ : List Nat) (hd : σ.Nodup) : SepO W oo w (l ++ σ.map fun k => m[k]?.getD emp) := by
  obtain ⟨own, hkp, hs⟩ := h
  refine ⟨fun i => if own i < l.length then own i else l.length + σ.idxOf (own i - l.length), hkp, fun j Q hj => ?_⟩
  rcases Nat.lt_or_ge j l.length with hlt | hge
  · rw [List.getElem?_append_left hlt] at hj
    exact Q.mono (hs j Q (by rw [List.getElem?_append_left hlt]; exact hj)) (fun i hi => ⟨hi.1, by simp only []; rw [hi.2, if_pos hlt]⟩)
  · rw [List.getElem?_append_right hge, List.getElem?_map] at hj
    rcases Nat.lt_or_ge (j - l.length) σ.length with h2 | h2
    · rw [List.getElem?_eq_getElem h2] at hj
      simp only [Option.map_some, Option.some.injEq] at hj
      cases hm : m[σ[j - l.length]]? with
      | none =>
        rw [hm] at hj
        subst hj
        trivial
      | some P =>
        rw [hm] at hj
        simp only [Option.getD_some] at hj
        subst hj
        refine P.mono (hs (l.length + σ[j - l.length]) P (by rw [List.getElem?_append_right (by omega), Nat.add_sub_cancel_left]; exact hm)) (fun i hi => ⟨hi.1, ?_⟩)
        simp only []
        rw [hi.2, if_neg (by omega), Nat.add_sub_cancel_left, hd.idxOf_getElem _ h2]
        omega
    · rw [List.getElem?_eq_none h2] at hj
      cases hj
theorem SepO.nil_rowK (h : SepO W oo w l) (e : TypeId) (s : Nat) : SepO W oo w (l ++ [rowK e s (.slice none 0 0) 0 []]) := h.add (P := rowK e s _ 0 []) (Keep.refl _ _) ⟨World.ownsRow_nil w 0 e s, fun g hg => by cases hg⟩
theorem SepO.new_rowK (h : SepO W oo w l) (e : TypeId) (s : Nat) (cs : Array Value) (n : Nat) (hn : n ≤ maxLen) (hs : cs.size = n * s) : SepO W oo (w.alloc (.cells cs e)) (l ++ [rowK e s (.slice (some ⟨w.heap.size, 0, none⟩) n n) n cs.toList]) :=
  h.add (P := rowK e s _ n cs.toList) ((Keep.refl _ _).alloc _) ⟨World.ownsRow_lit w cs n (Nat.zero_le _) hn hs, fun g hg => by
    simp [Value.ownBlock] at hg
    omega⟩
theorem SepO.rowk (h : SepO W oo w l) (k : Nat) (hk : l[k]? = some (rowK e s v n xs)) : ∃ A c, v = .slice A n c ∧ n ≤ c ∧ c ≤ 9223372036854775807 ∧ xs.length = n * s ∧ (0 < n → ∃ g, A = some ⟨g, 0, none⟩ ∧ ((oo g ∨ W.heap.size ≤ g) ∧ g < w.heap.size) ∧ (∀ j, j < n * s → w.cell? ⟨g, j, none⟩ = xs[j]?) ∧ ∀ j, w.frozen? ⟨g, j, none⟩ = false) := by
  obtain ⟨o, ⟨h1, h2⟩, h3⟩ := h.get k hk
  obtain ⟨A, c, rfl, hc, hc2, hA⟩ := own_form h1
  refine ⟨A, c, rfl, hc, hc2, h1.1, fun h0 => ?_⟩
  obtain ⟨g, rfl⟩ := hA h0
  exact ⟨g, rfl, h3 g (h2 g rfl), fun j hj => h1.cellAt j hj, fun j => h1.frozenAt j⟩
/-- 'x = append(x, u)' of such a row: as one step of a walk. -/
theorem wpList_append_rowK {P : Program} {ops : Array Oper} {rest : List Oper} {o : Oper} {a : Act} {Q : Exit → Act → World → Prop} (hgd : o.guard = none) (sl x : Operand) (t : TypeId)
    (ho : o.op = .call { callee := .builtin .append, args := #[sl, x], argTypes := #[t, t] })
    (e : TypeId) (i : TypeInfo) (z : Value) (size bytes : Nat) (ht : P.underlying t = some (.slice e)) (hi : P.info? e = some i) (hz : i.zero = some z) (hs : i.size = size) (hby : i.bytes = bytes) (hzs : z.cells.size = size) (hsz : 0 < size)
    (v : Value) (n : Nat) (xs : List Value) (hsv : a.eval sl = v) (h : SepO W oo w l) (k : Nat) (hk : l[k]? = some (rowK e size v n xs)) (ad : Addr) (news : List Value) (hxv : a.eval x = .slice (some ad) 1 1)
    (hl : news.length = size) (hnews : ∀ j u, news[j]? = some u → w.cell? (ad.add j) = some u) (h1 : ∀ u ∈ news, u.oneCell' = true)
    (h63 : n + 1 ≤ 9223372036854775807) (hbytes : (n + 1) * bytes ≤ 140737488355328)
    (hw : ∀ A' c' w', SepO W oo w' (l.set k (rowK e size (.slice A' (n + 1) c') (n + 1) (xs ++ news))) → wpList P ops Q rest (a.put o.dst (.slice A' (n + 1) c')) w') : wpList P ops Q (o :: rest) a w := by
  obtain ⟨ok, ⟨hq, hq2⟩, _, hup⟩ := h.open_ k hk
  refine wpList_append_own_at w hgd sl x t ho 0 e i z size bytes ht hi hz hs hby hzs hsz v n xs hsv hq ad 1 1 news hxv (by simpa using hl) hnews h1 (by unfold maxLen; omega) hbytes (Nat.zero_le _) ?_
  intro v' w' hown hgr _ hblk
  obtain ⟨A', c', rfl, _, _, _⟩ := own_form hown
  refine hw A' c' w' (hup w' (rowK e size _ (n + 1) (xs ++ news)) ⟨hown, fun g hg => ?_⟩ ⟨hgr.os, hgr.tape, hgr.output, hgr.size, fun j hj hn => hgr.block j hj (fun hx => hn (hq2 j hx.symm))⟩)
  rcases hblk with hb | hb
  · exact .inl (hq2 g (hb ▸ hg))
  · rw [hb] at hg
    cases hg
    exact .inr (Nat.le_refl _)
theorem step_append_rowK {P : Program} {ops : Array Oper} {o : Oper} {a : Act} {K : Act → World → Prop} {Q : Exit → Act → World → Prop} {E : Prop} (hgd : o.guard = none) (sl x : Operand) (t : TypeId)
    (ho : o.op = .call { callee := .builtin .append, args := #[sl, x], argTypes := #[t, t] })
    (e : TypeId) (i : TypeInfo) (z : Value) (size bytes : Nat) (ht : P.underlying t = some (.slice e)) (hi : P.info? e = some i) (hz : i.zero = some z) (hs : i.size = size) (hby : i.bytes = bytes) (hzs : z.cells.size = size) (hsz : 0 < size)
    (v : Value) (n : Nat) (xs : List Value) (hsv : a.eval sl = v) (h : SepO W oo w l) (k : Nat) (hk : l[k]? = some (rowK e size v n xs)) (ad : Addr) (news : List Value) (hxv : a.eval x = .slice (some ad) 1 1)
    (hl : news.length = size) (hnews : ∀ j u, news[j]? = some u → w.cell? (ad.add j) = some u) (h1 : ∀ u ∈ news, u.oneCell' = true)
    (h63 : n + 1 ≤ 9223372036854775807) (hbytes : (n + 1) * bytes ≤ 140737488355328)
    (hw : ∀ A' c' w', SepO W oo w' (l.set k (rowK e size (.slice A' (n + 1) c') (n + 1) (xs ++ news))) → K (a.put o.dst (.slice A' (n + 1) c')) w') :
    if Region.wanted o (yielded ops a.tmps) = true then Oper.wp P o a w K Q else E := by
  rw [if_pos (by simp [Region.wanted, hgd])]
  obtain ⟨ok, ⟨hq, hq2⟩, _, hup⟩ := h.open_ k hk
  obtain ⟨v', w', hr, hown, hgr, _, hblk⟩ := run_append_own_at (P := P) w 0 t o.type e i z size bytes ht hi hz hs hby hzs hsz v n xs hq ad 1 1 news (by simpa using hl) hnews h1 (by unfold maxLen; omega) hbytes (Nat.zero_le _)
  obtain ⟨A', c', rfl, _, _, _⟩ := own_form hown
  unfold Oper.wp execOp
  simp only [ho, resolve, invoke, builtin, Sem.run_bind, Sem.run_pure, Result.andThen_ok, List.map_toArray, List.map_cons, List.map_nil, hsv, hxv, hr]
  refine hw A' c' w' (hup w' (rowK e size _ (n + 1) (xs ++ news)) ⟨hown, fun g hg => ?_⟩ ⟨hgr.os, hgr.tape, hgr.output, hgr.size, fun j hj hn => hgr.block j hj (fun hx => hn (hq2 j hx.symm))⟩)
  rcases hblk with hb | hb
  · exact .inl (hq2 g (hb ▸ hg))
  · rw [hb] at hg
    cases hg
    exact .inr (Nat.le_refl _)
/-- A part of many parts is two. -/
theorem SepO.split_mid {A B : List Pr} (h : SepO W oo w l) (k : Nat) (hk : l[k]? = some (sepP (A ++ B))) : SepO W oo w (l.set k (sepP A) ++ B) := by
  obtain ⟨own, hkp, hs⟩ := h
  obtain ⟨own2, hs2⟩ := hs k _ hk
  have hkl := (List.getElem?_eq_some_iff.1 hk).1
  refine ⟨fun i => if own i = k then (if own2 i < A.length then k else if own2 i < A.length + B.length then l.length + (own2 i - A.length) else l.length + B.length) else if own i < l.length then own i else l.length + B.length, hkp, fun j R hj => ?_⟩
  rcases Nat.lt_or_ge j l.length with hlt | hge
  · rw [List.getElem?_append_left (by simpa using hlt), List.getElem?_set] at hj
    by_cases hjk : k = j
    · subst hjk
      rw [if_pos rfl, if_pos hkl] at hj
      injection hj with hj
      subst hj
      refine ⟨own2, fun m P hP => P.mono (hs2 m P (by rw [List.getElem?_append_left (List.getElem?_eq_some_iff.1 hP).1]; exact hP)) (fun i hi => ?_)⟩
      have hml := (List.getElem?_eq_some_iff.1 hP).1
      exact ⟨⟨⟨hi.1.1.1, by simp only []; rw [if_pos hi.1.1.2, if_pos (by have := hi.2; omega)]⟩, hi.1.2⟩, hi.2⟩
    · rw [if_neg hjk] at hj
      exact R.mono (hs j R hj) (fun i hi => ⟨hi.1, by simp only []; rw [if_neg (by have := hi.2; omega), if_pos (by have := hi.2; omega)]; exact hi.2⟩)
  · rw [List.getElem?_append_right (by simpa using hge), List.length_set] at hj
    have hjb := (List.getElem?_eq_some_iff.1 hj).1
    refine R.mono (hs2 (A.length + (j - l.length)) R (by rw [List.getElem?_append_right (by omega), Nat.add_sub_cancel_left]; exact hj)) (fun i hi => ⟨hi.1.1.1, ?_⟩)
    simp only []
    rw [if_pos hi.1.1.2, if_neg (by have := hi.2; omega), if_pos (by have := hi.2; omega)]
    have := hi.2
    omega
/-- The capacity of a row is cut to its length. -/
theorem SepO.row_clip {A : Option Addr} {c : Nat} (h : SepO W oo w l) (k : Nat) (hk : l[k]? = some (rowP e A n c xs)) : SepO W oo w (l.set k (rowP e A n n xs)) := by
  obtain ⟨o, ⟨h1, h2, h3, h4⟩, _, hup⟩ := h.open_ k hk
  refine hup w (rowP e A n n xs) ⟨h1, Nat.le_refl _, by omega, ?_⟩ (Keep.refl _ _)
  rcases h4 with ⟨rfl, rfl⟩ | ⟨g, off, cur, hA, hg, hb, hs, ht⟩
  · exact .inl ⟨rfl, by omega⟩
  · exact .inr ⟨g, off, cur, hA, .inl hg, hb, by omega, ht⟩
theorem qr_of_own {base : Nat} {ok : Nat → Prop} {A : Option Addr} {c : Nat} (h : w.ownsRow base e 1 (.slice A n c) n xs) (hok : ∀ i, base ≤ i → ok i) : QR w ok e A n c xs := by
  have hx := h.1
  rcases h.2 with ⟨h', h0⟩ | ⟨g', cap', cur, h', hb, hg, hn, hm, hcs, htake⟩
  · simp only [Value.slice.injEq] at h'
    obtain ⟨rfl, _, rfl⟩ := h'
    exact ⟨by omega, by omega, by omega, .inl ⟨rfl, rfl⟩⟩
  · simp only [Value.slice.injEq, true_and] at h'
    obtain ⟨rfl, rfl⟩ := h'
    unfold maxLen at hm
    exact ⟨by omega, hn, by omega, .inr ⟨g', 0, cur, rfl, hok _ hb, hg, by omega, by rw [List.drop_zero]; simpa using htake⟩⟩
theorem SepO.new_row_cap (h : SepO W oo w l) (t : TypeId) (cs : Array Value) (hc : cs.size ≤ 9223372036854775807) : SepO W oo (w.alloc (.cells cs t)) (l ++ [rowP t (some ⟨w.heap.size, 0, none⟩) 0 cs.size []]) :=
  h.add (P := rowP t _ 0 cs.size []) ((Keep.refl _ _).alloc _) ⟨rfl, Nat.zero_le _, hc, .inr ⟨_, 0, cs, rfl, Nat.le_refl _, Blk.new w t cs, by simp, by simp⟩⟩
end
end Go.Proofs.YtihmkkjmnbehbaaGreat.W
/- All that a heap's handles come to: the walk. No condition. -/
set_option linter.unusedVariables false
set_option linter.unusedSimpArgs false
namespace Go.Proofs.YtihmkkjmnbehbaaGreat.Wh
open Go.RowKit Go.Proofs.YtihmkkjmnbehbaaGreat.W Go.Proofs.YtihmkkjmnbehbaaGreat.Sm
theorem meetL_pre (l : List Nat) : ∀ out : List Nat, ∃ m, Gr.meetL out l = out ++ m := by
  induction l with
  | nil => exact fun out => ⟨[], by simp [Gr.meetL]⟩
  | cons x r ih =>
    intro out
    unfold Gr.meetL
    by_cases hx : x = 0 ∨ x ∈ out
    · rw [if_pos hx]; exact ih out
    · rw [if_neg hx]
      obtain ⟨m, hm⟩ := ih (out ++ [x])
      exact ⟨x :: m, by rw [hm]; simp⟩
theorem MR.start : MR [((0 : Int), Value.bool true)] [] := by
  intro x
  by_cases hx : x = 0
  · subst hx; rfl
  · rw [if_neg (by simp [hx])]
    have : mget (mput ([] : List (Int × Value)) 0 (.bool true)) x = mget [] x := mget_put_other _ hx _
    exact this
section
variable {κ : Type} [DecidableEq κ] {P : Program} {kt : TypeId} {K : KeyKind P kt κ} {W w : World} {oo : Nat → Prop} {l : List Pr} {g : Nat} {al : List (κ × Value)}
theorem wpList_insert_sep {ops : Array Oper} {rest : List Oper} {o : Oper} {a : Act} {Q : Exit → Act → World → Prop} (hgd : o.guard = none) (m x v : Operand) (t : TypeId) (hop : o.op = Op.insert t m x v)
    {e : TypeId} (ht : P.underlying t = some (.map kt e)) (h : SepO W oo w l) (k : Nat) (hk : l[k]? = some (mapP K g al)) (key : κ) (val : Value) (hm : a.eval m = .map (some g)) (hx : a.eval x = K.enc key) (hv : a.eval v = val)
    (hw : ∀ w', SepO W oo w' (l.set k (mapP K g (mput al key val))) → wpList P ops Q rest (a.put o.dst undef) w') : wpList P ops Q (o :: rest) a w := by
  refine wpList_plain hgd fun K' hK' => ?_
  obtain ⟨w', hr, h'⟩ := h.update k hk ht key val
  unfold Oper.wp
  simp [execOp, hop, hm, hx, hv, hr, Result.andThen]
  exact hK' _ _ (hw w' h')
end
section
variable {W w : World} {oo : Nat → Prop} {k : CK} {S : CS} {l : List Pr} {m : Mp} {R : Nat → Prop} {G : Gr.GS}
theorem mt_sl (Q : Pr) (n : List Pr) : (cparts k S ++ ((l ++ [Q]) ++ n))[8 + l.length]? = some Q := by
  rw [List.getElem?_append_right (by simp [cparts]), List.append_assoc, List.getElem?_append_right (by simp [cparts])]
  simp [cparts]
theorem mt_out {F M mg O : Nat} {al : List (Int × Value)} {A : Option Addr} {c : Nat} {P : List Int} (h : SepO W oo w (cparts k S ++ (l ++ mt k F M mg O al A c P))) {n : Nat} {a : Int} (ha : P[n]? = some a) : ∃ B off, A = some ⟨B, off, none⟩ ∧ w.cell? ⟨B, off + n, none⟩ = some (.int .i64 a) ∧ P.length ≤ c := by
  obtain ⟨o, hq, _⟩ := h.row (e := 3) (A := A) (n := P.length) (c := c) (xs := P.map (Value.int .i64)) (8 + l.length + 4) (mt_ix 4)
  have hn : n < P.length := (List.getElem?_eq_some_iff.1 ha).1
  obtain ⟨G, off, hA, _, _, hc, _⟩ := hq.at_ hn
  refine ⟨G, off, hA, ?_, hq.2.1⟩
  rw [hc n hn, List.getElem?_map, ha]; rfl
theorem mt_le {F M mg O : Nat} {al : List (Int × Value)} {A : Option Addr} {c : Nat} {P : List Int} (h : SepO W oo w (cparts k S ++ (l ++ mt k F M mg O al A c P))) : P.length ≤ c := by
  obtain ⟨o, hq, _⟩ := h.row (e := 3) (A := A) (n := P.length) (c := c) (xs := P.map (Value.int .i64)) (8 + l.length + 4) (mt_ix 4)
  exact hq.2.1
theorem mt_fin {F M mg O : Nat} {al : List (Int × Value)} {A : Option Addr} {c : Nat} {P : List Int} {Q : Pr} (h : SepO W oo w (cparts k S ++ ((l ++ [Q]) ++ mt k F M mg O al A c P))) : SepO W oo w (cparts k S ++ (l ++ [rowP 3 A P.length P.length (P.map (Value.int .i64))])) := by
  have h1 := h.row_clip (e := 3) (A := A) (n := P.length) (c := c) (xs := P.map (Value.int .i64)) (8 + (l ++ [Q]).length + 4) (mt_ix 4)
  rw [mt_set] at h1
  have h2 : SepO W oo w ((cparts k S ++ l) ++ (Q :: [blkP F 109 #[.func (.func 60) #[pt k.c] #[]], blkP M 108 #[.map (some mg)], mapP iK mg al, blkP O 53 #[.slice A P.length c], rowP 3 A P.length P.length (P.map (Value.int .i64))])) := by
    have e : cparts k S ++ (l ++ [Q] ++ (mt k F M mg O al A c P).set 4 (rowP 3 A P.length P.length (P.map (Value.int .i64)))) = (cparts k S ++ l) ++ (Q :: [blkP F 109 #[.func (.func 60) #[pt k.c] #[]], blkP M 108 #[.map (some mg)], mapP iK mg al, blkP O 53 #[.slice A P.length c], rowP 3 A P.length P.length (P.map (Value.int .i64))]) := by
      simp [mt]
    rw [← e]; exact h1
  have h3 := h2.tail_pick [5] (by decide)
  simpa using h3
theorem hd_ptrs (q0 q1 q2 q3 : Value) (q4 q5 q6 : Value) (W : World) : (Instr.field 99 (.agg #[q0, q1, q2, q3, q4, q5, q6]) 1).run Tryz.prog W = .ok q1 W := by kernel_rfl
theorem mt_last (Q : Pr) : (cparts k S ++ l ++ [Q])[8 + l.length]? = some Q := by
  rw [List.getElem?_append_right (by simp [cparts]; omega)]
  simp [cparts, show l.length + 8 = 8 + l.length from by omega]
set_option maxRecDepth 20000 in
set_option maxHeartbeats 4000000 in
theorem Live_in (hG : Good S m R G) (hN : G.nodes.length ≤ 1000) (h : SepO W oo w (cparts k S ++ l)) : Calls Tryz.prog 31 #[pt k.c] w fun e w' => ∃ P A c, Pl m R P (Gr.live G) ∧ e = .returned (.slice A P.length c) ∧ SepO W oo w' (cparts k S ++ (l ++ [rowP 3 A P.length c (P.map (Value.int .i64))])) := by
  obtain ⟨⟨_, _, _, _, _, c18⟩, _, hbl, _⟩ := c_at h
  replace c18 : w.cell? ⟨k.c, 18, none⟩ = some (pt k.t) := c18
  replace hbl : k.c < w.heap.size := hbl
  have H := Lib.hid h
  have hmm := @run_makeMap Tryz.prog
  have HG := Lib.hid hG
  clear h hG
  go_enter Tryz.func31, Tryz.ntmps31
  go_wp2_with (refine wpList_insert_sep (g := w.heap.size) rfl _ _ _ 108 rfl Tryz.underlying108 (H.out.new_map iK) (8 + l.length) (mt_last _) 0 (.bool true) rfl rfl rfl ?_)
  intro w1 h1
  generalize w.heap.size = mg at *
  have h1 : SepO W oo w1 (cparts k S ++ (l ++ [mapP iK mg [(0, .bool true)]])) := by
    have e : (cparts k S ++ (l ++ [mapP iK mg []])).set (8 + l.length) (mapP iK mg (mput [] 0 (Value.bool true))) = cparts k S ++ (l ++ [mapP iK mg [(0, .bool true)]]) := by
      rw [List.set_append_right _ _ (by simp [cparts]), List.set_append_right _ _ (by simp [cparts])]
      simp [cparts]; rfl
    rw [← e]; exact h1
  have h4 : SepO W oo (((w1.alloc (.cells #[.map (some mg)] 108)).alloc (.cells #[.slice none 0 0] 53)).alloc (.cells #[.func (.func 60) #[pt k.c] #[]] 109)) (cparts k S ++ (l ++ mt k (w1.heap.size + 1 + 1) w1.heap.size mg (w1.heap.size + 1) [(0, .bool true)] none 0 [])) := by
    have h3 := (((h1.new_blk 108 #[.map (some mg)]).new_blk 53 #[.slice none 0 0]).new_blk 109 #[.func (.func 60) #[pt k.c] #[]]).nil_row 3
    have e : cparts k S ++ (l ++ [mapP iK mg [(0, .bool true)]]) = (cparts k S ++ l) ++ [mapP iK mg [(0, .bool true)]] := by simp
    rw [e, List.append_assoc, List.append_assoc, List.append_assoc, List.append_assoc] at h3
    have := h3.tail_pick [3, 1, 0, 2, 4] (by decide)
    simpa [mt] using this
  have c18 : (((w1.alloc (.cells #[.map (some mg)] 108)).alloc (.cells #[.slice none 0 0] 53)).alloc (.cells #[.func (.func 60) #[pt k.c] #[]] 109)).cell? ⟨k.c, 18, none⟩ = some (pt k.t) := (c_at h4).1.2.2.2.2.2
  have hbl : k.c < w1.heap.size := (c_at h1).2.2.1
  have H4 := Lib.hid h4
  clear h1 h4 H hmm
  go_wp2_with fail
  obtain ⟨M, hM⟩ : ∃ M, w1.heap.size = M := ⟨_, rfl⟩
  have h4 := H4.out
  rw [hM] at h4
  have hN4 := tAll_in h4
  simp only [hM]
  have H4 := Lib.hid h4
  clear h4 hM
  refine hN4.mono ?_
  clear hN4
  rintro e w2 ⟨A1, rfl, h2⟩
  have h2 : SepO W oo w2 (cparts k S ++ ((l ++ [SLp (.slice A1 S.tb.length S.tb.length) S.tb]) ++ mt k (M + 1 + 1) M mg (M + 1) [(0, .bool true)] none 0 [])) := by
    have e : cparts k S ++ ((l ++ mt k (M + 1 + 1) M mg (M + 1) [(0, .bool true)] none 0 []) ++ [SLp (.slice A1 S.tb.length S.tb.length) S.tb]) = (cparts k S ++ l) ++ (mt k (M + 1 + 1) M mg (M + 1) [(0, .bool true)] none 0 [] ++ [SLp (.slice A1 S.tb.length S.tb.length) S.tb]) := by simp
    rw [e] at h2
    have := h2.tail_pick [5, 0, 1, 2, 3, 4] (by decide)
    simpa [mt] using this
  have H2 := Lib.hid h2
  clear h2 H4 c18
  have htl : S.tb.length = G.hs.length := HG.out.inv.sim.hl
  have gok := HG.out.inv.sim.gok
  have hTB : TB S := Ok.tb ⟨m, R, G, HG.out⟩
  have hokAll : ∀ j, Gr.OutOk G.nodes.length (Gr.meetL [] (G.hs.take j)) := fun j => (Gr.OutOk.nil _).meet (fun x hx => gok.hs x (List.mem_of_mem_take hx))
  have HTB := Lib.hid hTB
  have HTL := Lib.hid htl
  have GOK := Lib.hid gok
  have HOKA := Lib.hid hokAll
  have hlen : S.tb.length ≤ 100 := by have := gok.hlen; omega
  clear hTB htl gok hokAll
  go_wp2_with fail
  go_loopg [24] S.tb.length (fun gk z wr => ∃ (j : Nat) (P : List Int) (A : Option Addr) (c : Nat) (al : List (Int × Value)), j + gk = S.tb.length ∧ z = .int .i64 j ∧ MR al P ∧ Pl m R P (Gr.meetL [] (G.hs.take j)) ∧ SepO W oo wr (cparts k S ++ ((l ++ [SLp (.slice A1 S.tb.length S.tb.length) S.tb]) ++ mt k (M + 1 + 1) M mg (M + 1) al A c P)))
  case atStart => exact ⟨0, [], none, 0, _, by omega, rfl, MR.start, Pl.nil, H2.out⟩
  case round =>
    clear H2
    obtain ⟨j, P, A, c, al, hj, rfl, hM, hP, h⟩ := hrel
    have HJ := Lib.hid hj
    have hjl : j ≤ S.tb.length := by omega
    clear hj
    by_cases hlt : j < S.tb.length
    · obtain ⟨x, hx⟩ : ∃ x, S.tb[j] = x := ⟨_, rfl⟩
      have hxb : I64 x := hx ▸ HTB.out _ (List.getElem_mem hlt)
      obtain ⟨B, off, rfl, y0⟩ := slp_at (A := A1) (c := S.tb.length) (D := S.tb) h (8 + l.length) (mt_sl _ _) hlt
      rw [hx] at y0
      have hd := HG.out.inv.sim.tbD j hlt
      rw [show S.tb[j]?.getD 0 = x from by simp [hlt, hx]] at hd
      have hlt2 : j < G.hs.length := by rw [← HTL.out]; exact hlt
      have hst := Gr.meet_take hlt2 []
      have hpl := hP.meet HG.out hd
      rw [show G.hs[j]?.getD 0 = G.hs[j] from by simp [hlt2]] at hpl
      rw [← hst] at hpl
      have hPb : P.length ≤ 100000 := by have h1 := hP.len; have h2 := (HOKA.out j).len; omega
      have hC := meet_in x hxb hM hPb h
      obtain ⟨P', hP'⟩ : ∃ P', (if S.now x = 0 ∨ S.now x ∈ P then P else P ++ [S.now x]) = P' := ⟨_, rfl⟩
      rw [hP'] at hC hpl
      have HC := Lib.hid hC
      have HPL := Lib.hid hpl
      clear hC hpl hst hd hx hM hP h hP'
      go_wp2_with fail
      refine HC.out.mono ?_
      rintro e w3 ⟨rfl, al', A', c', hM', h'⟩
      have HM' := Lib.hid hM'
      have H3 := Lib.hid h'
      clear hM' h' HC
      go_wp2_with fail
      go_roundg (gk - 1)
      case measure => have := HJ.out; omega
      case rel => exact ⟨j + 1, P', A', c', al', by have := HJ.out; omega, by go_num, HM'.out, HPL.out, H3.out⟩
    · have hjL : j = S.tb.length := by omega
      have hlv : Gr.bfs G G.nodes.length 0 (Gr.meetL [] G.hs) = Gr.live G := rfl
      have hok0 := HOKA.out j
      rw [List.take_of_length_le (by rw [← HTL.out]; omega)] at hP hok0
      have HM0 := Lib.hid hM
      have HP0 := Lib.hid hP
      have H0 := Lib.hid h
      have HLV := Lib.hid hlv
      have HOK0 := Lib.hid hok0
      clear hM hP h hlv hok0 HJ
      go_wp2_with fail
      go_loopg [9] G.nodes.length (fun gk z wr => ∃ (n : Nat) (out : List Nat) (P : List Int) (A : Option Addr) (c : Nat) (al : List (Int × Value)), n + gk = G.nodes.length ∧ z = .int .i64 n ∧ n ≤ out.length ∧ Gr.OutOk G.nodes.length out ∧ Gr.bfs G gk n out = Gr.live G ∧ MR al P ∧ Pl m R P out ∧ SepO W oo wr (cparts k S ++ ((l ++ [SLp (.slice A1 S.tb.length S.tb.length) S.tb]) ++ mt k (M + 1 + 1) M mg (M + 1) al A c P)))
      case atStart => exact ⟨0, _, P, A, c, al, by omega, rfl, Nat.zero_le _, HOK0.out, HLV.out, HM0.out, HP0.out, H0.out⟩
      case round =>
        clear H0 HP0 HM0 HOK0 HLV hjl hlt hjL
        obtain ⟨n, out, P, A, c, al, hj, rfl, hno, hok, hb, hM, hP, h⟩ := hrel
        have HJ := Lib.hid hj
        have hol := hok.len
        have hPl := hP.len
        clear hj
        obtain ⟨-, -, o0, of_, fl, ml, ol⟩ := mt_at h
        by_cases hlt : n < out.length
        · obtain ⟨gz, rfl⟩ : ∃ x, x = gk := ⟨_, rfl⟩
          have hgz : 1 ≤ gz := by have := HJ.out; omega
          obtain ⟨f, rfl⟩ : ∃ f, gz = f + 1 := ⟨gz - 1, by omega⟩
          obtain ⟨q, hq⟩ : ∃ x, out[n]? = some x := ⟨_, List.getElem?_eq_getElem hlt⟩
          obtain ⟨a, ha, hat⟩ := hP.back hq
          unfold Gr.bfs at hb
          rw [hq] at hb
          simp only [] at hb
          obtain ⟨B, off, rfl, hcell, hnc⟩ := mt_out h ha
          obtain ⟨np, _, nr, _, _⟩ := HG.out.atNode hat
          obtain ⟨L, hL⟩ : ∃ L, (Gr.nod G q).refs = L := ⟨_, rfl⟩
          have hnok := (Gr.nod_at GOK.out (hok.pos q (List.mem_of_getElem? hq)) (hok.le q (List.mem_of_getElem? hq))).2
          have hrb : ∀ x ∈ L, x ≤ G.nodes.length := hL ▸ hnok.1
          have hrl : L.length ≤ 64 := by rw [← hL]; have := hnok.2.2; omega
          rw [hL] at hb np nr
          have hHd := Head_in a h
          obtain ⟨X, hX⟩ : ∃ X, S.hd a = X := ⟨_, rfl⟩
          rw [hX] at hHd np
          obtain ⟨q0, q1, q2, q3, q4, q5, q6⟩ := X
          simp only [] at np
          subst np
          have HHD := Lib.hid hHd
          have HB := Lib.hid hb
          have HOK := Lib.hid hok
          have HM := Lib.hid hM
          have HP := Lib.hid hP
          have HRB := Lib.hid hrb
          have HNR := Lib.hid nr
          have HAT := Lib.hid hat
          have HQ := Lib.hid hq
          have hfp := hd_ptrs (i6 q0) (i6 (L.length : Int)) (i6 q2) (i6 q3) (.bool q4) (.bool q5) (.bool q6)
          have HL := Lib.hid hL
          clear hHd hb hok hM hP hrb nr hat hq h hL hX ha hnok
          go_wp2_with fail
          refine HHD.out.mono ?_
          rintro e w3 ⟨rfl, h3⟩
          simp only [Hea.Hd.cells]
          have H3 := Lib.hid h3
          clear h3 HHD hcell o0 of_ hPl
          go_wp2_with fail
          go_loopg [45] L.length (fun gk z wr => ∃ (i : Nat) (P : List Int) (A : Option Addr) (c : Nat) (al : List (Int × Value)), i + gk = L.length ∧ z = .int .i64 i ∧ MR al P ∧ Pl m R P (Gr.meetL out (L.take i)) ∧ SepO W oo wr (cparts k S ++ ((l ++ [SLp (.slice A1 S.tb.length S.tb.length) S.tb]) ++ mt k (M + 1 + 1) M mg (M + 1) al A c P)))
          case atStart => exact ⟨0, P, _, c, al, by omega, rfl, HM.out, HP.out, H3.out⟩
          case round =>
            clear H3 HM HP hfp hnc
            obtain ⟨i, P, A, c, al, hj, rfl, hM, hP, h⟩ := hrel
            have HI := Lib.hid hj
            have hil : i ≤ L.length := by omega
            clear hj
            obtain ⟨-, -, o0, of_, fl, ml, ol⟩ := mt_at h
            by_cases hlt3 : i < L.length
            · obtain ⟨mm, hmm⟩ := meetL_pre (L.take i) out
              have hq2 : (Gr.meetL out (L.take i))[n]? = some q := by rw [hmm, List.getElem?_append_left hlt]; exact HQ.out
              obtain ⟨a', ha, hat'⟩ := hP.back hq2
              obtain rfl : a = a' := HG.out.atOne HAT.out hat'
              obtain ⟨B, off, rfl, hcell, hnc⟩ := mt_out h ha
              have hnP : n < P.length := (List.getElem?_eq_some_iff.1 ha).1
              have hd := HNR.out i hlt3
              have hrf := ref_b S a i
              have hC1 := Ref_in a i h
              obtain ⟨x, hx⟩ : ∃ x, S.ref a i = x := ⟨_, rfl⟩
              rw [hx] at hd hrf hC1
              have hst := Gr.meet_take hlt3 out
              have hpl := hP.meet HG.out hd
              rw [show rf G q i = L[i] from by unfold rf; rw [HL.out]; simp [hlt3]] at hpl
              rw [← hst] at hpl
              have hokp : Gr.OutOk G.nodes.length (Gr.meetL out (L.take i)) := HOK.out.meet (fun y hy => HRB.out y (List.mem_of_mem_take hy))
              have hPb : P.length ≤ 100000 := by have h1 := hP.len; have h2 := hokp.len; omega
              obtain ⟨P', hP'⟩ : ∃ P', (if S.now x = 0 ∨ S.now x ∈ P then P else P ++ [S.now x]) = P' := ⟨_, rfl⟩
              have hC : ∀ w', SepO W oo w' (cparts k S ++ ((l ++ [SLp (.slice A1 S.tb.length S.tb.length) S.tb]) ++ mt k (M + 1 + 1) M mg (M + 1) al (some ⟨B, off, none⟩) c P)) → Calls Tryz.prog 61 #[.int .i64 x, pt (M + 1 + 1), pt M, pt (M + 1)] w' fun e w'' => e = .returned (.tuple #[]) ∧ ∃ al' A' c', MR al' P' ∧ SepO W oo w'' (cparts k S ++ ((l ++ [SLp (.slice A1 S.tb.length S.tb.length) S.tb]) ++ mt k (M + 1 + 1) M mg (M + 1) al' A' c' P')) := fun w' h' => by rw [← hP']; exact meet_in x hrf hM hPb h'
              rw [hP'] at hpl
              have HC := Lib.hid hC
              have HC1 := Lib.hid hC1
              have HPL := Lib.hid hpl
              have HS := Lib.hid h
              clear hC hpl hst hd hx hM hP h hP' hC1 hokp hat' ha hq2 hmm
              go_wp2_with fail
              refine HC1.out.mono ?_
              rintro e w4 ⟨rfl, h4⟩
              have H4 := Lib.hid h4
              clear h4 HC1 hcell o0
              go_wp2_with fail
              refine (HC.out _ H4.out).mono ?_
              rintro e w5 ⟨rfl, al', A', c', hM', h'⟩
              have HM' := Lib.hid hM'
              have H5 := Lib.hid h'
              clear hM' h' HC H4
              go_wp2_with fail
              go_roundg (gk - 1)
              case measure => have := HI.out; omega
              case rel => exact ⟨i + 1, P', A', c', al', by have := HI.out; omega, by go_num, HM'.out, HPL.out, H5.out⟩
            · have hiL : i = L.length := by omega
              rw [List.take_of_length_le (by omega)] at hP
              have hokp : Gr.OutOk G.nodes.length (Gr.meetL out L) := HOK.out.meet HRB.out
              obtain ⟨mm, hmm⟩ := meetL_pre L out
              have hn2 : n + 1 ≤ (Gr.meetL out L).length := by rw [hmm, List.length_append]; omega
              have HP := Lib.hid hP
              have HM := Lib.hid hM
              have HS := Lib.hid h
              have HOP := Lib.hid hokp
              clear hP hM h hokp hmm o0
              go_wp2_with fail
              go_roundg f
              case measure => omega
              case rel => exact ⟨n + 1, Gr.meetL out L, P, A, c, al, by have := HJ.out; omega, by go_num, hn2, HOP.out, HB.out, HM.out, HP.out, HS.out⟩
        · have hR : out = Gr.live G := by
            have hx : out[n]? = none := List.getElem?_eq_none (by omega)
            cases gk with
            | zero => exact hb
            | succ f => unfold Gr.bfs at hb; rw [hx] at hb; exact hb
          subst hR
          have hc := mt_le h
          have hfin := mt_fin h
          have HS := Lib.hid hfin
          have HP := Lib.hid hP
          have hPl2 : P.length ≤ 1000 := by omega
          have hlt2 : ¬ n < P.length := by omega
          have hn9 : n ≤ 1000 := by omega
          clear h hb hok hM hP hno hol hPl hfin hlt
          go_wp2_with fail
          refine (Clip_calls _ hc (by omega)).mono ?_
          rintro e w7 ⟨rfl, rfl⟩
          go_wp2_with fail
          go_ret
          exact ⟨P, A, P.length, HP.out, rfl, HS.out⟩
end
end Go.Proofs.YtihmkkjmnbehbaaGreat.Wh
/- The number of a place: where it stands in a list. No condition. -/
set_option linter.unusedVariables false
set_option linter.unusedSimpArgs false
namespace Go.Proofs.YtihmkkjmnbehbaaGreat.Wh
open Go.RowKit Go.Proofs.YtihmkkjmnbehbaaGreat.W Go.Proofs.YtihmkkjmnbehbaaGreat.Sm
theorem idx_take {P : List Int} {a : Int} {j : Nat} (hj : P[j]? = some a) (hn : a ∉ P.take j) : P.idxOf a = j := by
  induction P generalizing j with
  | nil => simp at hj
  | cons b r ih =>
    cases j with
    | zero => simp at hj; subst hj; simp
    | succ j =>
      rw [List.take_succ_cons, List.mem_cons, not_or] at hn
      rw [List.idxOf_cons, show (b == a) = false from by simpa using fun e => hn.1 e.symm]
      simp only [List.getElem?_cons_succ] at hj
      simp [ih hj hn.2]
theorem ix_here {P : List Int} {a : Int} {j : Nat} (hj : P[j]? = some a) (hn : a ∉ P.take j) : ixOf P a = (j : Int) := by
  unfold ixOf; rw [if_pos (List.mem_of_getElem? hj), idx_take hj hn]
theorem ix_none {P : List Int} {a : Int} (h : a ∉ P) : ixOf P a = -1 := by unfold ixOf; rw [if_neg h]
section
variable {W w : World} {oo : Nat → Prop} {k : CK} {S : CS} {l L : List Pr} {m : Mp} {R : Nat → Prop} {G : Gr.GS} {A : Option Addr} {c : Nat} {P : List Int}
theorem row_at (h : SepO W oo w L) (i : Nat) (hi : L[i]? = some (rowP 3 A P.length c (P.map (Value.int .i64)))) {n : Nat} {a : Int} (ha : P[n]? = some a) : ∃ B off, A = some ⟨B, off, none⟩ ∧ w.cell? ⟨B, off + n, none⟩ = some (.int .i64 a) := by
  obtain ⟨o, hq, _⟩ := h.row (e := 3) (A := A) (n := P.length) (c := c) (xs := P.map (Value.int .i64)) i hi
  have hn : n < P.length := (List.getElem?_eq_some_iff.1 ha).1
  obtain ⟨G, off, hA, _, _, hc, _⟩ := hq.at_ hn
  refine ⟨G, off, hA, ?_⟩
  rw [hc n hn, List.getElem?_map, ha]; rfl
theorem row_c (h : SepO W oo w L) (i : Nat) (hi : L[i]? = some (rowP 3 A P.length c (P.map (Value.int .i64)))) : P.length ≤ c := by
  obtain ⟨o, hq, _⟩ := h.row (e := 3) (A := A) (n := P.length) (c := c) (xs := P.map (Value.int .i64)) i hi
  exact hq.2.1
set_option maxHeartbeats 2000000 in
theorem Index_in (a : Int) (h : SepO W oo w L) (i : Nat) (hi : L[i]? = some (rowP 3 A P.length c (P.map (Value.int .i64)))) (hl : P.length ≤ 1000) : Calls Tryz.prog 94 #[.slice A P.length c, .int .i64 a] w fun e w' => e = .returned (.int .i64 (ixOf P a)) ∧ SepO W oo w' L := by
  have H := Lib.hid h
  have hc := row_c h i hi
  have HI := Lib.hid hi
  clear h hi
  go_enter Tryz.func94, Tryz.ntmps94
  go_wp2_with fail
  go_loopg [8] P.length (fun gk z wr => ∃ j : Nat, j + gk = P.length ∧ z = .int .i64 j ∧ a ∉ P.take j ∧ SepO W oo wr L)
  case atStart => exact ⟨0, by omega, rfl, by simp, H.out⟩
  case round =>
    clear H
    obtain ⟨j, hj, rfl, hn, h⟩ := hrel
    have HJ := Lib.hid hj
    have hjl : j ≤ P.length := by omega
    clear hj
    by_cases hlt : j < P.length
    · obtain ⟨x, hx⟩ : ∃ x, P[j]? = some x := ⟨_, List.getElem?_eq_getElem hlt⟩
      obtain ⟨B, off, rfl, hcell⟩ := row_at h i HI.out hx
      by_cases e : a = x
      · subst e
        have hr := ix_here hx hn
        have HR := Lib.hid hr
        have HS := Lib.hid h
        clear hr hn hx h
        go_wp2_with fail
        go_ret
        exact ⟨by rw [HR.out]; rfl, HS.out⟩
      · have hn2 : a ∉ P.take (j + 1) := by
          rw [List.take_add_one, hx]
          simp [hn, e]
        have HN := Lib.hid hn2
        have HS := Lib.hid h
        clear hn2 hn hx h
        go_wp2_with fail
        go_roundg (gk - 1)
        case measure => have := HJ.out; omega
        case rel => exact ⟨j + 1, by have := HJ.out; omega, by go_num, HN.out, HS.out⟩
    · rw [List.take_of_length_le (by omega)] at hn
      have hr := ix_none hn
      have HR := Lib.hid hr
      have HS := Lib.hid h
      clear hr hn h
      go_wp2_with fail
      go_ret
      exact ⟨by rw [HR.out]; rfl, HS.out⟩
set_option maxHeartbeats 2000000 in
theorem number_in (hG : Good S m R G) (hp : Pl m R P (Gr.live G)) {v : Int} {q : Nat} (hv : I64 v) (d : Den m R v q) (h : SepO W oo w (cparts k S ++ l)) (i : Nat) (hi : l[i]? = some (rowP 3 A P.length c (P.map (Value.int .i64)))) (hl : P.length ≤ 1000) : Calls Tryz.prog 53 #[pt k.c, .slice A P.length c, .int .i64 v] w fun e w' => e = .returned (.int .i64 ((Gr.num (Gr.live G) q : Nat) : Int)) ∧ SepO W oo w' (cparts k S ++ l) := by
  have hc := row_c h (8 + i) (by rw [List.getElem?_append_right (by simp [cparts])]; simpa [cparts] using hi)
  have hnum := hp.num hG d
  have hN := Now_in v hv h
  obtain ⟨x, hx⟩ : ∃ x, S.now v = x := ⟨_, rfl⟩
  rw [hx] at hnum hN
  have hI := fun w' (h' : SepO W oo w' (cparts k S ++ l)) => Index_in x h' (8 + i) (by rw [List.getElem?_append_right (by simp [cparts])]; simpa [cparts] using hi) hl
  have hxb : -1 ≤ ixOf P x ∧ ixOf P x ≤ 1000 := by
    unfold ixOf
    by_cases e : x ∈ P
    · rw [if_pos e]
      have := List.idxOf_lt_length_iff.2 e
      omega
    · rw [if_neg e]; omega
  obtain ⟨y, hy⟩ : ∃ y, ixOf P x = y := ⟨_, rfl⟩
  rw [hy] at hnum hxb
  simp only [hy] at hI
  have HN := Lib.hid hN
  have HI := Lib.hid hI
  have HU := Lib.hid hnum
  clear hN hI h hnum hi hx hy hG hp d
  go_enter Tryz.func53, Tryz.ntmps53
  go_wp2_with fail
  refine HN.out.mono ?_
  rintro e w1 ⟨rfl, h1⟩
  have H1 := Lib.hid h1
  clear h1
  go_wp2_with fail
  refine (HI.out _ H1.out).mono ?_
  rintro e w2 ⟨rfl, h2⟩
  have H2 := Lib.hid h2
  clear h2
  go_wp2_with fail
  go_ret
  exact ⟨by rw [← HU.out]; congr 2; try go_num, H2.out⟩
end
end Go.Proofs.YtihmkkjmnbehbaaGreat.Wh
/- Nodes that are told, as lists: in memory that is only read. No condition. -/
set_option linter.unusedVariables false
set_option linter.unusedSimpArgs false
namespace Go.Proofs.YtihmkkjmnbehbaaGreat.W
open Go.RowKit
/-- A node that is told: its references, its words. -/
structure N2 where
  pv : Value
  sv : Value
  ptrs : List Int
  scal : List Int
def N2.cells (x : N2) : List Value := [x.pv, x.sv]
/-- A slice of such nodes. -/
def NS (w : World) (ok : Nat → Prop) (v : Value) (L : List (List Int × List Int)) : Prop :=
  ∃ rows : List N2, rows.map (fun r => (r.ptrs, r.scal)) = L ∧ SS w ok N2.cells 2 v rows ∧ ∀ r ∈ rows, SL w ok .i64 r.pv r.ptrs ∧ SL w ok .u64 r.sv r.scal
section
variable {w w' : World} {ok ok' : Nat → Prop} {v : Value} {L : List (List Int × List Int)}
theorem SS.mono {α : Type} {f : α → List Value} {k : Nat} {l : List α} (h : SS w ok f k v l) (hs : ∀ i, ok i → ok' i) : SS w ok' f k v l := by
  obtain ⟨A, c, e, hl, hc⟩ := h
  exact ⟨A, c, e, hl, fun h0 => by obtain ⟨b, o, hA, hb, r⟩ := hc h0; exact ⟨b, o, hA, hs b hb, r⟩⟩
theorem SS.bound {α : Type} {f : α → List Value} {k : Nat} {l : List α} (h : SS w ok f k v l) : SS w (fun i => ok i ∧ i < w.heap.size) f k v l := by
  obtain ⟨A, c, e, hl, hc⟩ := h
  exact ⟨A, c, e, hl, fun h0 => by obtain ⟨b, o, hA, hb, hlt, r⟩ := hc h0; exact ⟨b, o, hA, ⟨hb, hlt⟩, hlt, r⟩⟩
theorem SL.bound {k : IntKind} {l : List Int} (h : SL w ok k v l) : SL w (fun i => ok i ∧ i < w.heap.size) k v l := by
  obtain ⟨A, c, e, hl, hc⟩ := h
  exact ⟨A, c, e, hl, fun h0 => by obtain ⟨b, o, hA, hb, hlt, r⟩ := hc h0; exact ⟨b, o, hA, ⟨hb, hlt⟩, hlt, r⟩⟩
theorem NS.keep (h : NS w ok v L) (hk : Keep ok' w w') (hn : ∀ i, ok i → ok' i → False) : NS w' ok v L := by
  obtain ⟨rows, e, h1, h2⟩ := h
  exact ⟨rows, e, h1.keep hk hn, fun r hr => ⟨(h2 r hr).1.keep hk hn, (h2 r hr).2.keep hk hn⟩⟩
theorem NS.mono (h : NS w ok v L) (hs : ∀ i, ok i → ok' i) : NS w ok' v L := by
  obtain ⟨rows, e, h1, h2⟩ := h
  exact ⟨rows, e, h1.mono hs, fun r hr => ⟨(h2 r hr).1.mono hs, (h2 r hr).2.mono hs⟩⟩
theorem NS.bound (h : NS w ok v L) : NS w (fun i => ok i ∧ i < w.heap.size) v L := by
  obtain ⟨rows, e, h1, h2⟩ := h
  exact ⟨rows, e, h1.bound, fun r hr => ⟨(h2 r hr).1.bound, (h2 r hr).2.bound⟩⟩
theorem NS.len (h : NS w ok v L) : ∃ A c, v = .slice A L.length c ∧ L.length ≤ 9223372036854775807 := by
  obtain ⟨rows, e, ⟨A, c, h1, h2, _⟩, _⟩ := h
  have : L.length = rows.length := by rw [← e]; simp
  rw [this]
  exact ⟨A, c, h1, h2⟩
end
def NodesP (v : Value) (L : List (List Int × List Int)) : Pr := ⟨fun w o => NS w o v L, fun h k hn => h.keep k hn, fun h hs => h.mono hs, fun h => h.bound⟩
def IntsP (v : Value) (L : List Int) : Pr := ⟨fun w o => SL w o .i64 v L, fun h k hn => h.keep k hn, fun h hs => h.mono hs, fun h => h.bound⟩
end Go.Proofs.YtihmkkjmnbehbaaGreat.W
/- What tells of nodes: rows, and Clip. No condition. -/
set_option linter.unusedVariables false
set_option linter.unusedSimpArgs false
namespace Go.Proofs.YtihmkkjmnbehbaaGreat.W
/-- A row of a node that is told, as it was made. -/
structure NR where
  pA : Option Addr
  pc : Nat
  sA : Option Addr
  ptrs : List Int
  scal : List Int
abbrev NR.pv (r : NR) : Value := .slice r.pA r.ptrs.length r.pc
abbrev NR.sv (r : NR) : Value := .slice r.sA r.scal.length r.scal.length
def ncl (r : NR) : List Value := [r.pv, r.sv]
def npt (r : NR) : List Pr := [rowP 3 r.pA r.ptrs.length r.pc (r.ptrs.map (Value.int .i64)), rowP 31 r.sA r.scal.length r.scal.length (r.scal.map (Value.int .u64))]
def NR.n2 (r : NR) : N2 := ⟨r.pv, r.sv, r.ptrs, r.scal⟩
theorem fm2_get {α β : Type} {N : List α} {f : α → List β} (hf : ∀ p, (f p).length = 2) {i : Nat} {p : α} (h : N[i]? = some p) {j : Nat} (hj : j < 2) : (N.flatMap f)[i * 2 + j]? = (f p)[j]? := by
  induction N generalizing i with
  | nil => simp at h
  | cons q r ih =>
    rw [List.flatMap_cons]
    cases i with
    | zero =>
      simp at h
      subst h
      rw [Nat.zero_mul, Nat.zero_add, List.getElem?_append_left (by rw [hf]; exact hj)]
    | succ i =>
      simp at h
      rw [List.getElem?_append_right (by rw [hf]; omega), hf, show (i + 1) * 2 + j - 2 = i * 2 + j by omega]
      exact ih h
theorem nodes_of {A : Option Addr} {n c : Nat} {rows : List NR} {L : List (List Int × List Int)} (hL : rows.map (fun r => (r.ptrs, r.scal)) = L) (hn : n = rows.length) (w : World) (o : Nat → Prop)
    (h : (sepP (rowK 75 2 (.slice A n c) n (rows.flatMap ncl) :: rows.flatMap npt)).p w o) : (NodesP (.slice A n n) L).p w o := by
  subst hn
  have h1 := SepO.enter h
  refine ⟨rows.map NR.n2, by rw [← hL, List.map_map]; rfl, ?_, ?_⟩
  · obtain ⟨A', c', e, h2, h3, h4, h5⟩ := h1.rowk 0 rfl
    simp only [Value.slice.injEq, true_and] at e
    obtain ⟨rfl, rfl⟩ := e
    refine ⟨A, rows.length, by rw [List.length_map], by rw [List.length_map]; omega, fun h0 => ?_⟩
    rw [List.length_map] at h0
    obtain ⟨g, rfl, h6, h7, h8⟩ := h5 h0
    refine ⟨g, 0, rfl, h6.1.elim id (fun hx => by omega), h6.2, fun j x hj i u hu => ?_⟩
    rw [List.getElem?_map] at hj
    cases hr : rows[j]? with
    | none => rw [hr] at hj; cases hj
    | some r =>
      rw [hr] at hj
      cases hj
      have hi2 : i < 2 := by have := (List.getElem?_eq_some_iff.1 hu).1; simpa [N2.cells] using this
      have hjl := (List.getElem?_eq_some_iff.1 hr).1
      rw [Nat.zero_add, h7 _ (by omega), fm2_get (fun p => rfl) hr hi2]
      exact hu
  · intro r hr
    obtain ⟨x, hx, rfl⟩ := List.mem_map.1 hr
    obtain ⟨j, hj, rfl⟩ := List.getElem_of_mem hx
    have e0 : (rowK 75 2 (.slice A rows.length c) rows.length (rows.flatMap ncl) :: rows.flatMap npt)[j * 2 + 0 + 1]? = some (rowP 3 rows[j].pA rows[j].ptrs.length rows[j].pc (rows[j].ptrs.map (Value.int .i64))) := by
      have := fm2_get (f := npt) (fun p => rfl) (List.getElem?_eq_getElem hj) (j := 0) (by omega)
      exact this
    have e1 : (rowK 75 2 (.slice A rows.length c) rows.length (rows.flatMap ncl) :: rows.flatMap npt)[j * 2 + 1 + 1]? = some (rowP 31 rows[j].sA rows[j].scal.length rows[j].scal.length (rows[j].scal.map (Value.int .u64))) := by
      have := fm2_get (f := npt) (fun p => rfl) (List.getElem?_eq_getElem hj) (j := 1) (by omega)
      exact this
    obtain ⟨o1, q1, q2⟩ := h1.sl (k' := .i64) _ e0
    obtain ⟨o2, q3, q4⟩ := h1.sl (k' := .u64) _ e1
    exact ⟨q1.mono (fun i hi => (q2 i hi).1.elim id (fun hx => by have := (q2 i hi).2; omega)), q3.mono (fun i hi => (q4 i hi).1.elim id (fun hx => by have := (q4 i hi).2; omega))⟩
theorem news2 (w : World) (t : TypeId) (a b : Value) : ∀ j u, [a, b][j]? = some u → (w.alloc (.cells #[a, b] t)).cell? ((⟨w.heap.size, 0, none⟩ : Addr).add j) = some u := by
  intro j u hu
  rw [Addr.add_lit, Nat.zero_add, (Blk.new w t #[a, b]).cell]
  simpa using hu
theorem SepO.row_le {W w : World} {oo : Nat → Prop} {l : List Pr} {e : TypeId} {A : Option Addr} {n c : Nat} {xs : List Value} (h : SepO W oo w (l ++ [rowP e A n c xs])) : n ≤ c ∧ c ≤ 9223372036854775807 := by
  obtain ⟨o, hq, _⟩ := h.row (e := e) (A := A) (n := n) (c := c) (xs := xs) l.length (by simp)
  exact ⟨hq.2.1, hq.2.2.1⟩
theorem SepO.clip_last {W w : World} {oo : Nat → Prop} {l : List Pr} {e : TypeId} {A : Option Addr} {n c : Nat} {xs : List Value} (h : SepO W oo w (l ++ [rowP e A n c xs])) : SepO W oo w (l ++ [rowP e A n n xs]) := by
  have h1 := h.row_clip (e := e) (A := A) (n := n) (c := c) (xs := xs) l.length (by simp)
  rw [List.set_append_right _ _ (Nat.le_refl _), Nat.sub_self] at h1
  exact h1
end Go.Proofs.YtihmkkjmnbehbaaGreat.W
namespace Go.Proofs.YtihmkkjmnbehbaaGreat.Wh
open Go.RowKit Go.Proofs.YtihmkkjmnbehbaaGreat.W Go.Proofs.YtihmkkjmnbehbaaGreat.Sm
theorem info_nd : (Tryz.prog.info? 75).map (fun i => (i.zero, i.size, i.bytes)) = some (some (.agg #[.slice none 0 0, .slice none 0 0]), 2, 48) := by kernel_rfl
theorem ClipW_calls {A : Option Addr} {n c : Nat} (w : World) (h : n ≤ c) (hn : n ≤ 9223372036854775807) :
    Calls Tryz.prog 57 #[.slice A n c] w fun e w' => e = .returned (.slice A n n) ∧ w = w' := by
  go_enter Tryz.func57, Tryz.ntmps57
  go_wp2
  go_ret
  exact ⟨rfl, rfl⟩
theorem ClipN_calls {A : Option Addr} {n c : Nat} (w : World) (h : n ≤ c) (hn : n ≤ 9223372036854775807) :
    Calls Tryz.prog 59 #[.slice A n c] w fun e w' => e = .returned (.slice A n n) ∧ w = w' := by
  go_enter Tryz.func59, Tryz.ntmps59
  go_wp2
  go_ret
  exact ⟨rfl, rfl⟩
end Go.Proofs.YtihmkkjmnbehbaaGreat.Wh
/- What a heap tells of its nodes: the walk. No condition. -/
set_option linter.unusedVariables false
set_option linter.unusedSimpArgs false
namespace Go.Proofs.YtihmkkjmnbehbaaGreat.Wh
open Go.RowKit Go.Proofs.YtihmkkjmnbehbaaGreat.W Go.Proofs.YtihmkkjmnbehbaaGreat.Sm
theorem info_wd : (Tryz.prog.info? 31).map (fun i => (i.zero, i.size, i.bytes)) = some (some (.int .u64 0), 1, 8) := by kernel_rfl
abbrev hcs (X : Hd) : Array Value := #[i6 X.size, i6 X.ptrs, i6 X.age, i6 X.par, .bool X.grey, .bool X.noted, .bool X.old]
/-- A node as it is told: its head's copy, itself, its rows. -/
def nd (z o : Nat) (X : Hd) (sA : Option Addr) (sc : Nat) (ss : List Int) (pA : Option Addr) (pc : Nat) (ps : List Int) : List Pr :=
  [blkP z 99 (hcs X), blkP o 75 #[.slice pA ps.length pc, .slice sA ss.length sc], rowP 31 sA ss.length sc (ss.map (Value.int .u64)), rowP 3 pA ps.length pc (ps.map (Value.int .i64))]
section
variable {W w : World} {oo : Nat → Prop} {k : CK} {S : CS} {l B : List Pr} {m : Mp} {R : Nat → Prop} {G : Gr.GS} {z o : Nat} {X : Hd} {sA pA : Option Addr} {sc pc : Nat} {ss ps : List Int} {A' : Option Addr} {c' : Nat} {v : Int}
theorem nd_at (h : SepO W oo w (cparts k S ++ (B ++ nd z o X sA sc ss pA pc ps))) : w.cell? ⟨z, 0, none⟩ = some (i6 X.size) ∧ w.cell? ⟨z, 1, none⟩ = some (i6 X.ptrs) ∧ w.cell? ⟨o, 0, none⟩ = some (.slice pA ps.length pc) ∧ w.cell? ⟨o, 1, none⟩ = some (.slice sA ss.length sc) ∧ (∀ j, w.frozen? ⟨o, j, none⟩ = false) ∧ z < w.heap.size ∧ o < w.heap.size := by
  have b0 := h.blk (g := z) (t := 99) (cs := hcs X) (8 + B.length + 0) (mt_ix 0)
  have b1 := h.blk (g := o) (t := 75) (cs := #[.slice pA ps.length pc, .slice sA ss.length sc]) (8 + B.length + 1) (mt_ix 1)
  exact ⟨b0.cell 0, b0.cell 1, b1.cell 0, b1.cell 1, b1.frozen, b0.lt, b1.lt⟩
theorem step_callW {P : Program} {ops : Array Oper} {o : Oper} {a : Act} {w : World} {K : Act → World → Prop} {Q : Exit → Act → World → Prop} {E : Prop} (hgd : o.guard = none) (F : FuncId) (args : Array Value) (v : Value) (C : World → Prop)
    (hx : (execOp a.eval o).run P w = .ok (.enter F args) w) (hc : Calls P F args w fun e w' => e = .returned v ∧ C w') (hw : ∀ w', C w' → K (a.put o.dst v) w') : if Region.wanted o (yielded ops a.tmps) = true then Oper.wp P o a w K Q else E := by
  rw [if_pos (by simp [Region.wanted, hgd])]
  unfold Oper.wp
  rw [hx, Oper.upon_enter]
  refine hc.mono ?_
  rintro e w' ⟨rfl, h⟩
  exact hw w' h
theorem nd_seto (h : SepO W oo w (cparts k S ++ (B ++ [blkP z 99 (hcs X), blkP o 75 #[.slice pA ps.length pc, .slice sA ss.length sc], rowP 31 sA ss.length sc (ss.map (Value.int .u64))] ++ [rowP 3 A' (ps.length + 1) c' (ps.map (Value.int .i64) ++ [.int .i64 v])]))) : w.cell? ⟨o, 0, none⟩ = some (.slice pA ps.length pc) ∧ w.frozen? ⟨o, 0, none⟩ = false ∧ SepO W oo (w.setCell ⟨o, 0, none⟩ (.slice A' (ps.length + 1) c')) (cparts k S ++ (B ++ nd z o X sA sc ss A' c' (ps ++ [v]))) := by
  rw [List.append_assoc B] at h
  have hb := h.blk (g := o) (t := 75) (cs := #[.slice pA ps.length pc, .slice sA ss.length sc]) (8 + B.length + 1) (mt_ix 1)
  refine ⟨hb.cell 0, hb.frozen 0, ?_⟩
  have h4 := h.set_blk (g := o) (t := 75) (cs := #[.slice pA ps.length pc, .slice sA ss.length sc]) (8 + B.length + 1) (mt_ix 1) 0 (.slice A' (ps.length + 1) c')
  rw [mt_set] at h4
  have e : (ps ++ [v]).length = ps.length + 1 := by simp
  simp only [nd, List.map_append, List.map_cons, List.map_nil, e]
  exact h4
set_option maxRecDepth 20000 in
set_option maxHeartbeats 8000000 in
theorem wNodes_in (hG : Good S m R G) (hN : G.nodes.length ≤ 1000) (h : SepO W oo w (cparts k S ++ l)) : Calls Tryz.prog 29 #[pt k.c] w fun e w' => ∃ v hv, e = .returned (.tuple #[v, hv]) ∧ SepO W oo w' (cparts k S ++ (l ++ [NodesP v (Gr.shown G), IntsP hv (Gr.helds G)])) := by
  have hL := Live_in hG hN h
  have gok := hG.inv.sim.gok
  have hlok := Gr.live_ok gok
  obtain ⟨V, hV⟩ : ∃ V, Gr.live G = V := ⟨_, rfl⟩
  have hsh : Gr.shown G = V.map fun x => ((Gr.nod G x).refs.map (fun r => ((Gr.num V r : Nat) : Int)), (Gr.nod G x).scal) := by unfold Gr.shown; rw [hV]
  have hhe : Gr.helds G = G.hs.map fun r => ((Gr.num V r : Nat) : Int) := by unfold Gr.helds; rw [hV]
  have hnm := fun (w' : World) (B : List Pr) (P : List Int) (A : Option Addr) (c : Nat) (hp : Pl m R P (Gr.live G)) (v : Int) (q : Nat) (hv : I64 v) (d : Den m R v q) (h : SepO W oo w' (cparts k S ++ B)) (hi : B[l.length]? = some (rowP 3 A P.length c (P.map (Value.int .i64)))) (hl : P.length ≤ 1000) => number_in hG hp hv d h l.length hi hl
  rw [hV] at hL hlok hnm
  have HL := Lib.hid hL
  have HG := Lib.hid hG
  have GOK := Lib.hid gok
  have HLO := Lib.hid hlok
  have HSH := Lib.hid hsh
  have HHE := Lib.hid hhe
  have HNM := Lib.hid hnm
  have hol := hlok.len
  obtain ⟨⟨_, _, _, _, _, c18⟩, _, hbl, _⟩ := c_at h
  clear c18 hbl hL hG gok hlok hsh hhe hV h hnm
  obtain ⟨i1, i2, i3, i4, i5⟩ := info_parts Sm.info_int
  obtain ⟨j1, j2, j3, j4, j5⟩ := info_parts info_nd
  obtain ⟨k1, k2, k3, k4, k5⟩ := info_parts info_wd
  go_enter Tryz.func29, Tryz.ntmps29
  go_wp2_with fail
  refine HL.out.mono ?_
  rintro e w1 ⟨P, A, c, hP, rfl, h1⟩
  have hpl : P.length = V.length := hP.len
  have hpc := row_c h1 (8 + l.length) c_last
  have h2 : SepO W oo w1 (cparts k S ++ ((l ++ [rowP 3 A P.length c (P.map (Value.int .i64))]) ++ [rowK 75 2 (.slice none 0 0) 0 []])) := by
    have := h1.nil_rowK 75 2
    rw [List.append_assoc] at this
    exact this
  have H2 := Lib.hid h2
  have HP := Lib.hid hP
  have hp1 : P.length ≤ 1000 := by omega
  have HPL := Lib.hid hpl
  clear h1 h2 HL hP hpl hol
  go_wp2_with fail
  go_loopg [5, 23] P.length (fun gk v z wr => ∃ (j : Nat) (Bo : Option Addr) (d : Nat) (rows : List NR), j + gk = P.length ∧ z = .int .i64 j ∧ v = .slice Bo j d ∧ rows.length = j ∧ rows.map (fun r => (r.ptrs, r.scal)) = (Gr.shown G).take j ∧ SepO W oo wr (cparts k S ++ ((l ++ [rowP 3 A P.length c (P.map (Value.int .i64))]) ++ (rowK 75 2 (.slice Bo j d) j (rows.flatMap ncl) :: rows.flatMap npt))))
  case atStart => exact ⟨0, none, 0, [], by omega, rfl, rfl, rfl, rfl, by simpa using H2.out⟩
  case round =>
    clear H2
    obtain ⟨j, Bo, d, rows, hj, rfl, rfl, hrl, hrm, h⟩ := hrel
    have HJ := Lib.hid hj
    have HRL := Lib.hid hrl
    have HRM := Lib.hid hrm
    have hjl : j ≤ P.length := by omega
    clear hj hrl hrm
    by_cases hlt : j < P.length
    · obtain ⟨a, ha⟩ : ∃ x, P[j]? = some x := ⟨_, List.getElem?_eq_getElem hlt⟩
      obtain ⟨q, hq, hat⟩ := HP.out.both ha
      have hB : ∀ T : List Pr, ((l ++ [rowP 3 A P.length c (P.map (Value.int .i64))]) ++ T)[l.length]? = some (rowP 3 A P.length c (P.map (Value.int .i64))) := fun T => by simp
      obtain ⟨Bp, off, rfl, hcell⟩ := row_at h (8 + l.length) (mt_sl _ _) ha
      obtain ⟨np, ns, nr, nf, nl⟩ := HG.out.atNode hat
      obtain ⟨L, hL⟩ : ∃ L, (Gr.nod G q).refs = L := ⟨_, rfl⟩
      obtain ⟨M, hM⟩ : ∃ M, (Gr.nod G q).scal = M := ⟨_, rfl⟩
      have hqm := List.mem_of_getElem? hq
      have hnok := (Gr.nod_at GOK.out (HLO.out.pos q hqm) (HLO.out.le q hqm)).2
      have hrl : L.length + M.length ≤ 64 := by rw [← hL, ← hM]; have := hnok.2.2; omega
      have hHd := Head_in a h
      obtain ⟨X, hX⟩ : ∃ X, S.hd a = X := ⟨_, rfl⟩
      rw [hX] at hHd np ns nf
      rw [hL] at np ns nr
      rw [hM] at ns nf
      have HHD := Lib.hid hHd
      have HNR := Lib.hid nr
      have HNF := Lib.hid nf
      have HLl := Lib.hid hL
      have HMl := Lib.hid hM
      have HQ := Lib.hid hq
      have HB := Lib.hid hB
      clear hHd nr nf hL hM hq hat h hX ha hqm hnok hB
      obtain ⟨q0, q1, q2, q3, q4, q5, q6⟩ := X
      simp only [] at np ns
      subst np ns
      go_wp2_with fail
      refine HHD.out.mono ?_
      rintro e w2 ⟨rfl, h2⟩
      simp only [Hea.Hd.cells]
      generalize hT : (l ++ [rowP 3 (some ⟨Bp, off, none⟩) P.length c (P.map (Value.int .i64))]) ++ (rowK 75 2 (.slice Bo j d) j (rows.flatMap ncl) :: rows.flatMap npt) = T at *
      have HT := Lib.hid hT
      clear hT
      obtain ⟨z, hz⟩ : ∃ z, w2.heap.size = z := ⟨_, rfl⟩
      have h3 := (((h2.new_blk 99 (hcs ⟨(L.length : Int) + M.length, L.length, q2, q3, q4, q5, q6⟩)).new_blk 75 #[.slice none 0 0, .slice none 0 0]).nil_row 31).nil_row 3
      have h4 : SepO W oo ((w2.alloc (.cells (hcs ⟨(L.length : Int) + M.length, L.length, q2, q3, q4, q5, q6⟩) 99)).alloc (.cells #[.slice none 0 0, .slice none 0 0] 75)) (cparts k S ++ (T ++ nd z (z + 1) ⟨(L.length : Int) + M.length, L.length, q2, q3, q4, q5, q6⟩ none 0 [] none 0 [])) := by
        rw [← hz]; simpa [nd] using h3
      rw [hz] at h3
      have f4 := nd_at h4
      simp only [hcs, List.length_nil] at f4
      obtain ⟨z0, z1, o0, o1, of_, zl, ol⟩ := f4
      have H4 := Lib.hid h4
      clear h3 h4 HHD h2 hcell
      have hTi : T[l.length]? = some (rowP 3 (some ⟨Bp, off, none⟩) P.length c (P.map (Value.int .i64))) := by rw [← HT.out]; simp
      have HTI := Lib.hid hTi
      clear hTi
      go_wp2_with fail
      obtain ⟨gz, rfl⟩ : ∃ x, x = gk := ⟨_, rfl⟩
      go_loopg [32] L.length (fun gk z9 wr => ∃ (i : Nat) (pA : Option Addr) (pc : Nat), i + gk = L.length ∧ z9 = .int .i64 i ∧ SepO W oo wr (cparts k S ++ (T ++ nd z (z + 1) ⟨(L.length : Int) + M.length, L.length, q2, q3, q4, q5, q6⟩ none 0 [] pA pc ((L.take i).map (fun r => ((Gr.num V r : Nat) : Int))))))
      case atStart => exact ⟨0, none, 0, by omega, rfl, H4.out⟩
      case round =>
        clear H4 z0 z1 o0 o1 of_ zl ol
        obtain ⟨i, pA, pc, hi, rfl, h⟩ := hrel
        have HI := Lib.hid hi
        have hil : i ≤ L.length := by omega
        clear hi
        by_cases hlt2 : i < L.length
        · have hf : ∀ w', SepO W oo w' (cparts k S ++ (T ++ nd z (z + 1) ⟨(L.length : Int) + M.length, L.length, q2, q3, q4, q5, q6⟩ none 0 [] pA pc ((L.take i).map (fun r => ((Gr.num V r : Nat) : Int))))) → w'.cell? ⟨z + 1, 0, none⟩ = some (.slice pA i pc) := fun w' h' => by
            have := (nd_at h').2.2.1
            rw [List.length_map, List.length_take, Nat.min_eq_left hil] at this
            exact this
          have o0 := hf _ h
          have o0' := hf _ h.drew
          have hd := HNR.out i hlt2
          have hrf := ref_b S a i
          obtain ⟨x, hx⟩ : ∃ x, S.ref a i = x := ⟨_, rfl⟩
          rw [hx] at hd hrf
          obtain ⟨y, hy⟩ : ∃ y, Gr.num V (rf G q i) = y := ⟨_, rfl⟩
          have hC1 := fun w' (h' : SepO W oo w' (cparts k S ++ (T ++ nd z (z + 1) ⟨(L.length : Int) + M.length, L.length, q2, q3, q4, q5, q6⟩ none 0 [] pA pc ((L.take i).map (fun r => ((Gr.num V r : Nat) : Int)))))) => Ref_in a i h'
          have hC2 := fun w' (h' : SepO W oo w' (cparts k S ++ (T ++ nd z (z + 1) ⟨(L.length : Int) + M.length, L.length, q2, q3, q4, q5, q6⟩ none 0 [] pA pc ((L.take i).map (fun r => ((Gr.num V r : Nat) : Int)))))) => HNM.out w' _ P _ c HP.out x (rf G q i) hrf hd h' (by rw [List.getElem?_append_left (List.getElem?_eq_some_iff.1 HTI.out).1]; exact HTI.out) hp1
          rw [hx] at hC1
          rw [hy] at hC2
          have hlt3 : ((L.take i).map (fun r => ((Gr.num V r : Nat) : Int))).length = i := by simp [hil]
          obtain ⟨PT, hPT⟩ : ∃ PT, cparts k S ++ (T ++ nd z (z + 1) ⟨(L.length : Int) + M.length, L.length, q2, q3, q4, q5, q6⟩ none 0 [] pA pc ((L.take i).map (fun r => ((Gr.num V r : Nat) : Int)))) = PT := ⟨_, rfl⟩
          obtain ⟨PL, hPL⟩ : ∃ PL, cparts k S ++ (T ++ [blkP z 99 (hcs ⟨(L.length : Int) + M.length, L.length, q2, q3, q4, q5, q6⟩), blkP (z + 1) 75 #[.slice pA i pc, .slice none 0 0], rowP 31 none 0 0 []]) = PL := ⟨_, rfl⟩
          obtain ⟨xs, hxs⟩ : ∃ xs, ((L.take i).map (fun r => ((Gr.num V r : Nat) : Int))).map (Value.int .i64) = xs := ⟨_, rfl⟩
          have hrow : ∀ w', SepO W oo w' PT → SepO W oo w' (PL ++ [rowP 3 pA i pc xs]) := fun w' h' => by
            rw [← hPT] at h'
            unfold nd at h'
            rw [hlt3, hxs] at h'
            rw [← hPL]
            simpa using h'
          have hset : ∀ w' A' c', SepO W oo w' (PL ++ [rowP 3 A' (i + 1) c' (xs ++ [.int .i64 ((y : Nat) : Int)])]) → w'.cell? ⟨z + 1, 0, none⟩ = some (.slice pA i pc) ∧ w'.frozen? ⟨z + 1, 0, none⟩ = false ∧ SepO W oo (w'.setCell ⟨z + 1, 0, none⟩ (.slice A' (i + 1) c')) (cparts k S ++ (T ++ nd z (z + 1) ⟨(L.length : Int) + M.length, L.length, q2, q3, q4, q5, q6⟩ none 0 [] A' c' ((L.take (i + 1)).map (fun r => ((Gr.num V r : Nat) : Int))))) := fun w' A' c' h' => by
            have e9 : (L.take (i + 1)).map (fun r => ((Gr.num V r : Nat) : Int)) = (L.take i).map (fun r => ((Gr.num V r : Nat) : Int)) ++ [((y : Nat) : Int)] := by
              rw [List.take_succ_eq_append_getElem hlt2, List.map_append, ← hy]
              unfold rf
              rw [HLl.out]
              simp [hlt2]
            have := nd_seto (k := k) (S := S) (B := T) (z := z) (o := z + 1) (X := ⟨(L.length : Int) + M.length, L.length, q2, q3, q4, q5, q6⟩) (pA := pA) (ps := (L.take i).map (fun r => ((Gr.num V r : Nat) : Int))) (pc := pc) (sA := none) (ss := []) (sc := 0) (A' := A') (c' := c') (v := ((y : Nat) : Int)) (w := w') (by
              rw [hlt3, hxs]
              rw [← hPL] at h'
              simpa using h')
            rw [hlt3] at this
            rw [e9]
            exact this
          rw [hPT] at h
          simp only [hPT] at hC1 hC2 hf
          have HC1 := Lib.hid hC1
          have HC2 := Lib.hid hC2
          have HS := Lib.hid h
          have HF := Lib.hid hf
          have HRO := Lib.hid hrow
          have HSE := Lib.hid hset
          have hi9 : (i : Int) < L.length := by omega
          clear hC1 hC2 h hx hy hd hf hrow hset hPT hPL hxs hlt3
          go_wp2_with fail
          go_region_law (first | (refine step_callW rfl 54 #[pt k.c, .int .i64 a, .int .i64 i] (.int .i64 x) (fun w' => SepO W oo w' PT) (by first | rfl | simp [execOp, Act.eval, Act.put, go_sem]) (by first | exact HC1.out _ HS.out.drew | exact HC1.out _ HS.out) ?_; intro w4 h4; have o4 := HF.out _ h4) | (refine step_callW rfl 53 #[pt k.c, .slice (some ⟨Bp, off, none⟩) P.length c, .int .i64 x] (.int .i64 ((y : Nat) : Int)) (fun w' => SepO W oo w' PT) (by first | rfl | simp [execOp, Act.eval, Act.put, go_sem]) (HC2.out _ h4) ?_; intro w5 h5; have o5 := HF.out _ h5; have o5' := fun ob => HF.out _ (h5.alloc ob)) | (refine step_append_sep rfl (.tmp 36) (.tmp 44) 53 rfl 3 i1 (.int .i64 0) 8 Tryz.underlying53 i2 i3 i4 i5 rfl pA i pc xs (by simp [Act.eval, Act.put]) w5.heap.size (.int .i64 ((y : Nat) : Int)) (by simp [Act.eval, Act.put]) (HRO.out _ (h5.alloc _)) ((Blk.new _ _ _).cell 0) rfl (by omega) (by omega) ?_; intro A2 c2 w6 h6; obtain ⟨zc, zf, h7⟩ := HSE.out _ _ _ h6; have H7 := Lib.hid h7; clear h6 h7))
          all_goals
            as_aux_lemma =>
            go_wp2_with fail
            go_roundg (gk - 1)
            case measure => have := HI.out; omega
            case rel => exact ⟨i + 1, A2, c2, by have := HI.out; omega, by go_num, H7.out⟩
        · have hiL : i = L.length := by omega
          subst hiL
          rw [List.take_length] at h
          have f4 := nd_at h
          simp only [hcs, List.length_nil, List.length_map] at f4
          obtain ⟨z0, z1, o0, o1, of_, zl, ol⟩ := f4
          obtain ⟨ps, hps⟩ : ∃ ps, L.map (fun r => ((Gr.num V r : Nat) : Int)) = ps := ⟨_, rfl⟩
          have hpsl : ps.length = L.length := by rw [← hps]; simp
          rw [hps] at h
          have HPS := Lib.hid hps
          have HPSL := Lib.hid hpsl
          have H5 := Lib.hid h
          have hs1 : IntKind.i64.wrap ((L.length : Int) + M.length - L.length) = M.length := by
            rw [show (L.length : Int) + M.length - L.length = M.length from by omega]
            exact IntWalk.i64_in _ (by omega)
          clear h hps hpsl
          go_wp2_with fail
          clear hs1
          obtain ⟨gy, rfl⟩ : ∃ x, x = gk := ⟨_, rfl⟩
          go_loopg [53] M.length (fun gk z9 wr => ∃ (i : Nat) (sA : Option Addr) (sk : Nat), i + gk = M.length ∧ z9 = .int .i64 i ∧ SepO W oo wr (cparts k S ++ (T ++ nd z (z + 1) ⟨(L.length : Int) + M.length, L.length, q2, q3, q4, q5, q6⟩ sA sk (M.take i) pA pc ps)))
          case atStart => exact ⟨0, none, 0, by omega, rfl, H5.out⟩
          case round =>
            clear H5 z0 z1 o0 o1 of_ zl ol HI
            obtain ⟨i, sA, sk, hi, rfl, h⟩ := hrel
            have HI := Lib.hid hi
            have hil : i ≤ M.length := by omega
            clear hi
            have hti : (M.take i).length = i := by simp [hil]
            have f4 := nd_at h
            simp only [hcs] at f4
            rw [hti, HPSL.out] at f4
            obtain ⟨z0, z1, o0, o1, of_, zl, ol⟩ := f4
            by_cases hlt2 : i < M.length
            · obtain ⟨⟨c13, _⟩, _, cbl, _⟩ := c_at h
              replace c13 : wr.cell? ⟨k.c, 13, none⟩ = some (pt k.a) := c13
              replace cbl : k.c < wr.heap.size := cbl
              have s1 := IntWalk.i64_in ((L.length : Int) + (i : Int)) (by omega)
              have hv := HNF.out i hlt2
              have hvM : sc G q i = M[i] := by unfold sc; rw [HMl.out]; simp [hlt2]
              rw [hvM] at hv
              obtain ⟨v, hvv⟩ : ∃ v, M[i] = v := ⟨_, rfl⟩
              rw [hvv] at hv
              obtain ⟨er, her⟩ : ∃ v, Ob.erW S.ws (Ob.placeOf a ((L.length : Int) + i)) = v := ⟨_, rfl⟩
              obtain ⟨PT, hPT⟩ : ∃ PT, cparts k S ++ (T ++ nd z (z + 1) ⟨(L.length : Int) + M.length, L.length, q2, q3, q4, q5, q6⟩ sA sk (M.take i) pA pc ps) = PT := ⟨_, rfl⟩
              obtain ⟨xs, hxs⟩ : ∃ xs, (M.take i).map (Value.int .u64) = xs := ⟨_, rfl⟩
              have hcf : ∀ w', SepO W oo w' PT → Calls Tryz.prog 55 #[pt k.a, .int .i64 a, .int .i64 ((L.length : Int) + i)] w' fun e w'' => e = .returned (.tuple #[.int .u64 v, .int .i64 er]) ∧ SepO W oo w'' PT := fun w' h' => by
                rw [← hPT] at h' ⊢
                have := oba_read h' (fun o ho => Ob.Field_calls a ((L.length : Int) + i) ho)
                rw [hv, her] at this
                exact this
              have hix : PT[8 + T.length + 2]? = some (rowP 31 sA i sk xs) := by
                rw [← hPT, mt_ix]
                show some (rowP 31 sA (M.take i).length sk ((M.take i).map (Value.int .u64))) = _
                rw [hti, hxs]
              have hfx : ∀ w', SepO W oo w' PT → w'.cell? ⟨k.c, 13, none⟩ = some (pt k.a) ∧ w'.cell? ⟨z, 1, none⟩ = some (i6 (L.length : Int)) ∧ w'.cell? ⟨z + 1, 1, none⟩ = some (.slice sA i sk) := fun w' h' => by
                rw [← hPT] at h'
                have f := nd_at h'
                rw [hti] at f
                exact ⟨(c_at h').1.1, f.2.1, f.2.2.2.1⟩
              have hset : ∀ w' A' c', SepO W oo w' (PT.set (8 + T.length + 2) (rowP 31 A' (i + 1) c' (xs ++ [.int .u64 v]))) → w'.cell? ⟨z + 1, 1, none⟩ = some (.slice sA i sk) ∧ w'.frozen? ⟨z + 1, 1, none⟩ = false ∧ SepO W oo (w'.setCell ⟨z + 1, 1, none⟩ (.slice A' (i + 1) c')) (cparts k S ++ (T ++ nd z (z + 1) ⟨(L.length : Int) + M.length, L.length, q2, q3, q4, q5, q6⟩ A' c' (M.take (i + 1)) pA pc ps)) := fun w' A' c' h' => by
                rw [← hPT, mt_set] at h'
                have hb := h'.blk (g := z + 1) (t := 75) (cs := #[.slice pA ps.length pc, .slice sA (M.take i).length sk]) (8 + T.length + 1) (mt_ix 1)
                rw [hti] at hb
                refine ⟨hb.cell 1, hb.frozen 1, ?_⟩
                have h4 := h'.set_blk (g := z + 1) (t := 75) (cs := #[.slice pA ps.length pc, .slice sA (M.take i).length sk]) (8 + T.length + 1) (mt_ix 1) 1 (.slice A' (i + 1) c')
                rw [mt_set] at h4
                have e9 : M.take (i + 1) = M.take i ++ [v] := by rw [List.take_succ_eq_append_getElem hlt2, hvv]
                have e : (M.take i ++ [v]).length = i + 1 := by simp [hil]
                simp only [nd, e9, List.map_append, List.map_cons, List.map_nil, e, hxs]
                exact h4
              rw [hPT] at h
              have HCF := Lib.hid hcf
              have HIX := Lib.hid hix
              have HFX := Lib.hid hfx
              have HSE := Lib.hid hset
              have HS := Lib.hid h
              have hi9 : (i : Int) < M.length := by omega
              clear hv hvM hvv her hPT hxs hcf hix hfx hset h hti
              go_wp2_with fail
              go_region_held3 (fun w' => w'.cell? ⟨k.c, 13, none⟩ = some (pt k.a) ∧ w'.cell? ⟨z, 1, none⟩ = some (i6 (L.length : Int))) (first | exact ⟨c13, z1⟩ | exact ⟨x13, x1⟩ | go_keep) ((go_at_call 55; (with_reducible refine (HCF.out _ ?hx).mono ?_); (case hx => exact HS.out.drewN _); rintro e w3 ⟨rfl, h3⟩; obtain ⟨x13, x1, x2⟩ := HFX.out _ h3))
              have H3 := Lib.hid h3
              clear h3
              go_wp2_with (at_builtin; refine wpList_append_sep rfl _ _ 73 rfl 31 k1 (.int .u64 0) 8 Tryz.underlying73 k2 k3 k4 k5 rfl sA i sk xs rfl w3.heap.size (.int .u64 v) rfl (H3.out.alloc _) (8 + T.length + 2) HIX.out ?c1 rfl ?c2 ?c3 ?_)
              case c1 => exact (Blk.new _ _ _).cell 0
              case c2 => omega
              case c3 => omega
              intro A2 c2 w6 h6
              obtain ⟨zc, zf, h7⟩ := HSE.out _ _ _ h6
              have H7 := Lib.hid h7
              clear h6 h7 H3 HS HCF HFX HSE
              go_wp2_with fail
              go_roundg (gk - 1)
              case measure => have := HI.out; omega
              case rel => exact ⟨i + 1, A2, c2, by have := HI.out; omega, by go_num, H7.out⟩
            · have hiM : i = M.length := by omega
              subst hiM
              rw [List.take_length] at h
              obtain ⟨row, hrow⟩ : ∃ row, rowP 3 (some ⟨Bp, off, none⟩) P.length c (P.map (Value.int .i64)) = row := ⟨_, rfl⟩
              obtain ⟨nz, hnz⟩ : ∃ nz, [blkP z 99 (hcs ⟨(L.length : Int) + M.length, L.length, q2, q3, q4, q5, q6⟩), blkP (z + 1) 75 #[.slice pA L.length pc, .slice sA M.length sk], rowP 31 sA M.length M.length (M.map (Value.int .u64)), rowP 3 pA L.length L.length (ps.map (Value.int .i64))] = nz := ⟨_, rfl⟩
              have hle1 : L.length ≤ pc := by
                obtain ⟨o, hq, _⟩ := h.row (e := 3) (A := pA) (n := ps.length) (c := pc) (xs := ps.map (Value.int .i64)) (8 + T.length + 3) (mt_ix 3)
                rw [← HPSL.out]; exact hq.2.1
              have hle2 : M.length ≤ sk := by
                obtain ⟨o, hq, _⟩ := h.row (e := 31) (A := sA) (n := M.length) (c := sk) (xs := M.map (Value.int .u64)) (8 + T.length + 2) (mt_ix 2)
                exact hq.2.1
              have h1 := h.row_clip (e := 3) (A := pA) (n := ps.length) (c := pc) (xs := ps.map (Value.int .i64)) (8 + T.length + 3) (mt_ix 3)
              rw [mt_set] at h1
              have h2 := h1.row_clip (e := 31) (A := sA) (n := M.length) (c := sk) (xs := M.map (Value.int .u64)) (8 + T.length + 2) (mt_ix 2)
              rw [mt_set] at h2
              have h3 : SepO W oo wr (cparts k S ++ ((l ++ [row]) ++ (rowK 75 2 (.slice Bo j d) j (rows.flatMap ncl) :: (rows.flatMap npt ++ nz)))) := by
                have e : T ++ (((nd z (z + 1) ⟨(L.length : Int) + M.length, L.length, q2, q3, q4, q5, q6⟩ sA sk M pA pc ps).set 3 (rowP 3 pA ps.length ps.length (ps.map (Value.int .i64)))).set 2 (rowP 31 sA M.length M.length (M.map (Value.int .u64)))) = (l ++ [row]) ++ (rowK 75 2 (.slice Bo j d) j (rows.flatMap ncl) :: (rows.flatMap npt ++ nz)) := by
                  rw [← HT.out, hrow, ← hnz]
                  simp [nd, HPSL.out]
                rw [← e]; exact h2
              clear h1 h2 h
              obtain ⟨PT, hPT⟩ : ∃ PT, cparts k S ++ ((l ++ [row]) ++ (rowK 75 2 (.slice Bo j d) j (rows.flatMap ncl) :: (rows.flatMap npt ++ nz))) = PT := ⟨_, rfl⟩
              rw [hPT] at h3
              obtain ⟨I, hI⟩ : ∃ I, 8 + (l ++ [row]).length + 0 = I := ⟨_, rfl⟩
              have hix : PT[I]? = some (rowK 75 2 (.slice Bo j d) j (rows.flatMap ncl)) := by rw [← hPT, ← hI, mt_ix]; rfl
              have hset : ∀ w' A' c', SepO W oo w' (PT.set I (rowK 75 2 (.slice A' (j + 1) c') (j + 1) (rows.flatMap ncl ++ [.slice pA L.length L.length, .slice sA M.length M.length]))) → (w'.cell? ⟨z + 1, 0, none⟩ = some (.slice pA L.length pc) ∧ w'.cell? ⟨z + 1, 1, none⟩ = some (.slice sA M.length sk)) ∧ SepO W oo w' (cparts k S ++ ((l ++ [row]) ++ (rowK 75 2 (.slice A' (j + 1) c') (j + 1) (rows.flatMap ncl ++ [.slice pA L.length L.length, .slice sA M.length M.length]) :: (rows.flatMap npt ++ [rowP 3 pA L.length L.length (ps.map (Value.int .i64)), rowP 31 sA M.length M.length (M.map (Value.int .u64))])))) := fun w' A' c' h' => by
                rw [← hPT, ← hI, mt_set, List.set_cons_zero] at h'
                have e : cparts k S ++ ((l ++ [row]) ++ (rowK 75 2 (.slice A' (j + 1) c') (j + 1) (rows.flatMap ncl ++ [.slice pA L.length L.length, .slice sA M.length M.length]) :: (rows.flatMap npt ++ nz))) = (cparts k S ++ ((l ++ [row]) ++ (rowK 75 2 (.slice A' (j + 1) c') (j + 1) (rows.flatMap ncl ++ [.slice pA L.length L.length, .slice sA M.length M.length]) :: rows.flatMap npt))) ++ nz := by simp
                rw [e, ← hnz] at h'
                have hb := h'.blk (g := z + 1) (t := 75) (cs := #[.slice pA L.length pc, .slice sA M.length sk]) ((cparts k S ++ ((l ++ [row]) ++ (rowK 75 2 (.slice A' (j + 1) c') (j + 1) (rows.flatMap ncl ++ [.slice pA L.length L.length, .slice sA M.length M.length]) :: rows.flatMap npt))).length + 1) (by rw [List.getElem?_append_right (by omega), Nat.add_sub_cancel_left]; rfl)
                refine ⟨⟨hb.cell 0, hb.cell 1⟩, ?_⟩
                have h9 := h'.tail_pick [3, 2] (by decide)
                simpa using h9
              have hstep : (Gr.shown G).take (j + 1) = (Gr.shown G).take j ++ [(ps, M)] := by
                have hjV : j < V.length := by rw [← HPL.out]; exact hlt
                rw [HSH.out, List.take_succ_eq_append_getElem (by simpa using hjV)]
                congr 2
                simp only [List.getElem_map]
                have : V[j] = q := by
                  have := HQ.out
                  rw [List.getElem?_eq_getElem hjV] at this
                  exact Option.some.inj this
                rw [this, HLl.out, HMl.out, HPS.out]
              have HS := Lib.hid h3
              have HIX := Lib.hid hix
              have HSE := Lib.hid hset
              have HST := Lib.hid hstep
              have HROW := Lib.hid hrow
              clear h3 hix hset hstep hPT hI hnz hrow hti
              go_wp2_with fail
              go_region_held3 (fun w' => w'.cell? ⟨z + 1, 0, none⟩ = some (.slice pA L.length pc) ∧ w'.cell? ⟨z + 1, 1, none⟩ = some (.slice sA M.length sk)) (first | exact ⟨o0, o1⟩ | exact ⟨q0, q1⟩ | go_keep) ((first | (go_at_call 56; (with_reducible refine (Clip_calls _ hle1 (by omega)).mono ?_); rintro e w5 ⟨rfl, rfl⟩) | (go_at_call 57; (with_reducible refine (ClipW_calls _ hle2 (by omega)).mono ?_); rintro e w7 ⟨rfl, rfl⟩) | (refine step_append_rowK rfl _ _ 68 rfl 75 j1 (.agg #[.slice none 0 0, .slice none 0 0]) 2 48 Tryz.underlying68 j2 j3 j4 j5 rfl (by decide) (.slice Bo j d) j (rows.flatMap ncl) rfl (by first | exact HS.out.drew.alloc _ | exact HS.out.alloc _) I HIX.out _ [.slice pA L.length L.length, .slice sA M.length M.length] rfl rfl (news2 _ _ _ _) (by intro u hu; simp at hu; rcases hu with rfl | rfl <;> rfl) (by omega) (by omega) ?_; intro A' c' w8 h8; obtain ⟨⟨q0, q1⟩, h9⟩ := HSE.out _ _ _ h8)))
              have H9 := Lib.hid h9
              clear h8 h9 HS HSE HIX
              go_wp2_with fail
              go_roundg (gz - 1)
              case measure => have := HJ.out; omega
              case rel =>
                refine ⟨j + 1, A', c', rows ++ [⟨pA, L.length, sA, ps, M⟩], by have := HJ.out; omega, by go_num, rfl, by simp [HRL.out], by rw [List.map_append, HRM.out, HST.out]; rfl, ?_⟩
                have h9 := H9.out
                rw [List.flatMap_append, List.flatMap_append, HROW.out]
                simp only [List.flatMap_cons, List.flatMap_nil, List.append_nil, ncl, npt, NR.pv, NR.sv, HPSL.out]
                exact h9
    · have hje : j = P.length := by omega
      obtain ⟨row, hrow⟩ : ∃ row, rowP 3 A P.length c (P.map (Value.int .i64)) = row := ⟨_, rfl⟩
      rw [hrow] at h
      have hlen : (Gr.shown G).length = P.length := by rw [HSH.out, List.length_map]; exact HPL.out.symm
      have hrm := HRM.out
      rw [hje, ← hlen, List.take_length] at hrm
      obtain ⟨B', d', e9, hle, hle2, _, _⟩ := h.rowk (s := 2) (e := 75) (v := .slice Bo j d) (n := j) (xs := rows.flatMap ncl) (8 + (l ++ [row]).length + 0) (mt_ix 0)
      simp only [Value.slice.injEq, true_and] at e9
      obtain ⟨rfl, rfl⟩ := e9
      have h1 : SepO W oo wr ((cparts k S ++ (l ++ [row])) ++ (rowK 75 2 (.slice Bo j d) j (rows.flatMap ncl) :: rows.flatMap npt)) := by
        rw [List.append_assoc]; exact h
      have h2 := (h1.pack_tail).weak (cparts k S ++ (l ++ [row])).length (P := sepP (rowK 75 2 (.slice Bo j d) j (rows.flatMap ncl) :: rows.flatMap npt)) (Q := NodesP (.slice Bo j j) (Gr.shown G)) (by simp) (nodes_of hrm HRL.out.symm)
      rw [List.set_append_right _ _ (Nat.le_refl _), Nat.sub_self, List.set_cons_zero, List.append_assoc] at h2
      obtain ⟨⟨_, _, _, _, _, c18⟩, _, hbl, _⟩ := c_at h2
      replace c18 : wr.cell? ⟨k.c, 18, none⟩ = some (pt k.t) := c18
      replace hbl : k.c < wr.heap.size := hbl
      have hjp : j ≤ 1000 := by omega
      have H3 := Lib.hid h2
      have HROW := Lib.hid hrow
      have htl : S.tb.length = G.hs.length := HG.out.inv.sim.hl
      have hTB : TB S := Ok.tb ⟨m, R, G, HG.out⟩
      have hlen9 : S.tb.length ≤ 100 := by have := GOK.out.hlen; omega
      have HTL := Lib.hid htl
      have HTB := Lib.hid hTB
      clear h h1 h2 hrow hrm htl hTB HRM HRL HJ hje hlen
      go_wp2_with fail
      refine (tAll_in H3.out).mono ?_
      rintro e w2 ⟨A1, rfl, h4⟩
      have h5 := h4.nil_row 3
      have h6 : SepO W oo w2 (cparts k S ++ ((l ++ row :: NodesP (.slice Bo j j) (Gr.shown G) :: [SLp (.slice A1 S.tb.length S.tb.length) S.tb]) ++ [rowP 3 none 0 0 []])) := by simpa using h5
      have H6 := Lib.hid h6
      clear h4 h5 h6 H3 c18
      go_wp2_with fail
      obtain ⟨gz, rfl⟩ : ∃ x, x = gk := ⟨_, rfl⟩
      go_loopg [14, 93] S.tb.length (fun gk v z wr => ∃ (i : Nat) (B : Option Addr) (d : Nat), i + gk = S.tb.length ∧ z = .int .i64 i ∧ v = .slice B i d ∧ SepO W oo wr (cparts k S ++ ((l ++ row :: NodesP (.slice Bo j j) (Gr.shown G) :: [SLp (.slice A1 S.tb.length S.tb.length) S.tb]) ++ [rowP 3 B i d ((G.hs.take i).map fun r => .int .i64 ((Gr.num V r : Nat) : Int))])))
      case atStart => exact ⟨0, none, 0, by omega, rfl, rfl, by simpa using H6.out⟩
      case round =>
        clear H6
        obtain ⟨i, B, d2, hi, rfl, rfl, h⟩ := hrel
        have HI := Lib.hid hi
        have hil : i ≤ S.tb.length := by omega
        clear hi
        by_cases hlt2 : i < S.tb.length
        · obtain ⟨x, hx⟩ : ∃ x, S.tb[i] = x := ⟨_, rfl⟩
          have hxb : I64 x := hx ▸ HTB.out _ (List.getElem_mem hlt2)
          obtain ⟨Ba, ao, rfl, y0⟩ := slp_at (A := A1) (c := S.tb.length) (D := S.tb) h (8 + l.length + 2) (by
            have := mt_ix (k := k) (S := S) (l := l) (m := row :: NodesP (.slice Bo j j) (Gr.shown G) :: [SLp (.slice A1 S.tb.length S.tb.length) S.tb] ++ [rowP 3 B i d2 ((G.hs.take i).map fun r => .int .i64 ((Gr.num V r : Nat) : Int))]) 2
            rw [List.append_assoc l]
            exact this) hlt2
          rw [hx] at y0
          have hd := HG.out.inv.sim.tbD i hlt2
          rw [show S.tb[i]?.getD 0 = x from by simp [hlt2, hx]] at hd
          have hlt3 : i < G.hs.length := by rw [← HTL.out]; exact hlt2
          obtain ⟨y, hy⟩ : ∃ y, Gr.num V (G.hs[i]?.getD 0) = y := ⟨_, rfl⟩
          have hC := HNM.out wr _ P A c HP.out x (G.hs[i]?.getD 0) hxb hd h (by rw [HROW.out]; simp) hp1
          rw [hy] at hC
          have hst : (G.hs.take (i + 1)).map (fun r => Value.int .i64 ((Gr.num V r : Nat) : Int)) = (G.hs.take i).map (fun r => Value.int .i64 ((Gr.num V r : Nat) : Int)) ++ [.int .i64 ((y : Nat) : Int)] := by
            rw [List.take_succ_eq_append_getElem hlt3, List.map_append, ← hy]; simp [hlt3]
          obtain ⟨xs, hxs⟩ : ∃ xs, (G.hs.take i).map (fun r => Value.int .i64 ((Gr.num V r : Nat) : Int)) = xs := ⟨_, rfl⟩
          rw [hxs] at hC hst
          obtain ⟨U, hU⟩ : ∃ U, cparts k S ++ (l ++ row :: NodesP (.slice Bo j j) (Gr.shown G) :: [SLp (.slice (some ⟨Ba, ao, none⟩) S.tb.length S.tb.length) S.tb]) = U := ⟨_, rfl⟩
          have eU : ∀ Q : Pr, cparts k S ++ ((l ++ row :: NodesP (.slice Bo j j) (Gr.shown G) :: [SLp (.slice (some ⟨Ba, ao, none⟩) S.tb.length S.tb.length) S.tb]) ++ [Q]) = U ++ [Q] := fun Q => by rw [← hU]; simp only [List.append_assoc]
          rw [eU] at hC
          have HC := Lib.hid hC
          have HST := Lib.hid hst
          have HEU := Lib.hid eU
          clear hC hst hx hy hd h hxs hU eU
          go_wp2_with fail
          refine HC.out.mono ?_
          rintro e w3 ⟨rfl, h3⟩
          have H3 := Lib.hid h3
          clear h3 HC
          go_wp2_with (at_builtin; refine wpList_append_sep rfl _ _ 53 rfl 3 i1 (.int .i64 0) 8 Tryz.underlying53 i2 i3 i4 i5 rfl B i d2 xs rfl w3.heap.size (.int .i64 ((y : Nat) : Int)) rfl (H3.out.alloc _) U.length (by simp) ?c1 rfl ?c2 ?c3 ?_)
          case c1 => exact (Blk.new _ _ _).cell 0
          case c2 => omega
          case c3 => omega
          intro A2 c2 w6 h6
          have h7 : SepO W oo w6 (U ++ [rowP 3 A2 (i + 1) c2 (xs ++ [.int .i64 ((y : Nat) : Int)])]) := by simpa using h6
          have H7 := Lib.hid h7
          clear h6 h7 H3
          go_wp2_with fail
          go_roundg (gk - 1)
          case measure => have := HI.out; omega
          case rel => exact ⟨i + 1, A2, c2, by have := HI.out; omega, by go_num, rfl, by rw [HEU.out, HST.out]; exact H7.out⟩
        · have hiL : i = S.tb.length := by omega
          have ht : G.hs.take i = G.hs := List.take_of_length_le (by rw [← HTL.out]; omega)
          rw [ht] at h
          have h1 : SepO W oo wr ((cparts k S ++ (l ++ row :: NodesP (.slice Bo j j) (Gr.shown G) :: [SLp (.slice A1 S.tb.length S.tb.length) S.tb])) ++ [rowP 3 B i d2 (G.hs.map fun r => .int .i64 ((Gr.num V r : Nat) : Int))]) := by
            rw [List.append_assoc]; exact h
          have hle3 := h1.row_le
          have h2 := h1.clip_last
          have h4 := h2.weak (P := rowP 3 B i i (G.hs.map fun r => .int .i64 ((Gr.num V r : Nat) : Int))) (Q := IntsP (.slice B i i) (Gr.helds G)) (cparts k S ++ (l ++ row :: NodesP (.slice Bo j j) (Gr.shown G) :: [SLp (.slice A1 S.tb.length S.tb.length) S.tb])).length (by simp) (fun w o hq => by
            have e1 : (G.hs.map fun r => Value.int .i64 ((Gr.num V r : Nat) : Int)) = (Gr.helds G).map (Value.int .i64) := by rw [HHE.out, List.map_map]; rfl
            have e2 : i = (Gr.helds G).length := by rw [HHE.out, List.length_map, hiL]; exact HTL.out
            have hq' : QR w o 3 B i i (G.hs.map fun r => .int .i64 ((Gr.num V r : Nat) : Int)) := hq
            rw [e1, e2] at hq'
            rw [e2]
            exact hq'.sl)
          rw [List.set_append_right _ _ (Nat.le_refl _), Nat.sub_self, List.set_cons_zero] at h4
          have h5 : SepO W oo wr ((cparts k S ++ l) ++ [row, NodesP (.slice Bo j j) (Gr.shown G), SLp (.slice A1 S.tb.length S.tb.length) S.tb, IntsP (.slice B i i) (Gr.helds G)]) := by simpa using h4
          have h6 := h5.tail_pick [1, 3] (by decide)
          have h7 : SepO W oo wr (cparts k S ++ (l ++ [NodesP (.slice Bo j j) (Gr.shown G), IntsP (.slice B i i) (Gr.helds G)])) := by simpa using h6
          have H7 := Lib.hid h7
          clear h h1 h2 h4 h5 h6 h7 ht hiL
          go_wp2_with fail
          refine (ClipN_calls _ hle (by omega)).mono ?_
          rintro e w5 ⟨rfl, rfl⟩
          go_wp2_with fail
          refine (Clip_calls _ hle3.1 (by omega)).mono ?_
          rintro e w6 ⟨rfl, rfl⟩
          go_wp2_with fail
          go_ret2
          exact ⟨_, _, rfl, H7.out⟩
end
end Go.Proofs.YtihmkkjmnbehbaaGreat.Wh
/- What a heap tells of its nodes, over its graph. No condition. -/
set_option linter.unusedVariables false
set_option linter.unusedSimpArgs false
namespace Go.Proofs.YtihmkkjmnbehbaaGreat.W
theorem SepO.pack_head {W w : World} {oo : Nat → Prop} {A l : List Pr} (h : SepO W oo w (A ++ l)) : SepO W oo w (sepP A :: l) := by
  obtain ⟨own, hkp, hs⟩ := h
  refine ⟨fun i => if own i < A.length then 0 else own i - A.length + 1, hkp, fun j R hj => ?_⟩
  cases j with
  | zero =>
    simp at hj
    subst hj
    refine ⟨fun i => own i, fun m P hP => P.mono (hs m P (by rw [List.getElem?_append_left (List.getElem?_eq_some_iff.1 hP).1]; exact hP)) (fun i hi => ?_)⟩
    have hm := (List.getElem?_eq_some_iff.1 hP).1
    have h2 := hi.2
    exact ⟨⟨⟨hi.1, by simp only []; rw [if_pos (by omega)]⟩, hi.1.2⟩, hi.2⟩
  | succ j =>
    exact R.mono (hs (A.length + j) R (by rw [List.getElem?_append_right (by omega), Nat.add_sub_cancel_left]; simpa using hj)) (fun i hi => ⟨hi.1, by simp only []; rw [hi.2, if_neg (by omega)]; omega⟩)
end Go.Proofs.YtihmkkjmnbehbaaGreat.W
namespace Go.Proofs.YtihmkkjmnbehbaaGreat.Wh
open Go.RowKit Go.Proofs.YtihmkkjmnbehbaaGreat.W Go.Proofs.YtihmkkjmnbehbaaGreat.Sm
section
variable {W w : World} {oo : Nat → Prop} {l : List Pr} {hb kc : Nat} {c : CF} {G : Gr.GS}
theorem Nodes_g (hN : G.nodes.length ≤ 1000) (h : SepO W oo w (Hgg hb kc c G :: l)) : Calls Tryz.prog 29 #[pt kc] w fun e w' => ∃ v hv, e = .returned (.tuple #[v, hv]) ∧ SepO W oo w' (Hgg hb kc c G :: (l ++ [NodesP v (Gr.shown G), IntsP hv (Gr.helds G)])) := by
  obtain ⟨S, hg, h1⟩ := hgg_open h (i := 0) rfl
  rw [List.set_cons_zero] at h1
  obtain ⟨o, ⟨k, hk, hsep⟩, _, hup⟩ := h1.open_ 0 rfl
  have h2 := hup w (sepP (cparts k S ++ [hbP hb k])) ((sepP (cparts k S ++ [hbP hb k])).mono hsep (fun i h => .inl h)) (Keep.refl _ _)
  rw [List.set_cons_zero] at h2
  have h3 := h2.unpack
  rw [List.append_assoc] at h3
  obtain ⟨⟨m, R, hG⟩, hc⟩ := id hg
  have hC := wNodes_in hG hN h3
  rw [hk] at hC
  refine hC.mono ?_
  rintro e w' ⟨v, hv, rfl, h4⟩
  refine ⟨v, hv, rfl, ?_⟩
  have h5 : SepO W oo w' ((cparts k S ++ [hbP hb k]) ++ (l ++ [NodesP v (Gr.shown G), IntsP hv (Gr.helds G)])) := by simpa using h4
  have h6 := h5.pack_head
  have h7 := h6.weak (Q := Hgg hb kc c G) 0 rfl (fun w o hp => ⟨S, hg, k, hk, hp⟩)
  exact h7
end
end Go.Proofs.YtihmkkjmnbehbaaGreat.Wh
/- What an odd step answers. No condition. -/
set_option linter.unusedVariables false
set_option linter.unusedSimpArgs false
namespace Go.Proofs.YtihmkkjmnbehbaaGreat.Gr
open Go.RowKit Go.Proofs.YtihmkkjmnbehbaaGreat.W Go.Proofs.YtihmkkjmnbehbaaGreat
theorem gdo_err {s : GS} {x : A5} (h : (gdo s x).1.e ≠ 0) : (gdo s x).1 = err (gdo s x).1.e ∧ (gdo s x).2 = s := by
  revert h
  unfold gdo
  (repeat' split)
  all_goals first | (unfold ans gmake) | (unfold ans gget) | (unfold ans gset) | (unfold gread) | (unfold ans gwrite) | (unfold ans gclear) | (unfold ans gcopy) | (unfold gsame) | (unfold gnil) | (unfold gshape) | (unfold gidle) | skip
  all_goals (repeat' split)
  all_goals simp [err]
theorem gdo_one {s : GS} {x : A5} (h : (gdo s x).1.e = 1) : x.kind < 1 ∨ 12 < x.kind ∨ x.kind = 11 ∨ x.kind = 12 := by
  by_cases hk : 1 ≤ x.kind ∧ x.kind ≤ 10
  · exfalso
    revert h
    obtain ⟨h1, h2⟩ := hk
    rcases (by omega : x.kind = 1 ∨ x.kind = 2 ∨ x.kind = 3 ∨ x.kind = 4 ∨ x.kind = 5 ∨ x.kind = 6 ∨ x.kind = 7 ∨ x.kind = 8 ∨ x.kind = 9 ∨ x.kind = 10) with e | e | e | e | e | e | e | e | e | e <;>
      (unfold gdo; simp only [e]; simp [ans, err, gmake, gget, gset, gread, gwrite, gclear, gcopy, gsame, gnil, gshape, wrong]; (repeat' split) <;> simp_all)
  · omega
theorem gdo_out {s : GS} {x : A5} (h : x.kind < 1 ∨ 12 < x.kind) : gdo s x = (err 1, s) := by
  unfold gdo
  rw [if_neg (by omega), if_neg (by omega), if_neg (by omega), if_neg (by omega), if_neg (by omega), if_neg (by omega), if_neg (by omega), if_neg (by omega), if_neg (by omega), if_neg (by omega), if_neg (by omega)]
end Go.Proofs.YtihmkkjmnbehbaaGreat.Gr
namespace Go.Proofs.YtihmkkjmnbehbaaGreat.Wh
open Go.RowKit Go.Proofs.YtihmkkjmnbehbaaGreat.W Go.Proofs.YtihmkkjmnbehbaaGreat.Sm
theorem idle_ans (S : CS) (x : A5) (hk : x.kind = 11 ∨ x.kind = 12) (h : (S.doS x).1.e ≠ 0) : (S.doS x).1 = erA 1 := by
  rcases hk with e | e
  · have e2 : S.doS x = S.doIdle x := by unfold CS.doS; simp [e]
    rw [e2] at h ⊢
    revert h
    unfold CS.doIdle
    simp only []
    (repeat' split) <;> simp [erA]
  · have e2 : S.doS x = S.doForce x := by unfold CS.doS; simp [e]
    rw [e2] at h ⊢
    revert h
    unfold CS.doForce
    (repeat' split) <;> simp [erA]
/-- What an odd step answers: what is told of the answer, and the graph behind it. -/
structure OddA (x : A5) (a : An) (G G' : Gr.GS) : Prop where
  len : G'.nodes.length ≤ G.nodes.length + 1
  err : a.e ≠ 0 → G' = G ∧ a.yes = false ∧ a.n = 0 ∧ a.v = 0
  arg : (x.kind < 1 ∨ 12 < x.kind) ↔ (a.e = 1 ∧ x.kind ≠ 11 ∧ x.kind ≠ 12)
theorem GG.odd {c : CF} {S : CS} {G : Gr.GS} (h : GG c S G) (x : A5) (hx : x.wf) : ∃ G', GG c (S.doS x).2 G' ∧ OddA x (S.doS x).1 G G' := by
  by_cases hk : x.kind = 11 ∨ x.kind = 12
  · refine ⟨G, h.idle x hx hk, by omega, fun he => ?_, ⟨fun h => by omega, fun h => by omega⟩⟩
    rw [idle_ans S x hk he]
    exact ⟨rfl, rfl, rfl, rfl⟩
  · rcases h.any x hx with ⟨k, e1, e2, g⟩ | ⟨e1, g⟩
    · refine ⟨G, g, by omega, fun he => ?_, ⟨fun h => by omega, fun h => ?_⟩⟩
      · rw [e1]; exact ⟨rfl, rfl, rfl, rfl⟩
      · rw [e1] at h; exact absurd h.1 (by simp [erA])
    · unfold seenA at e1
      rw [if_neg hk] at e1
      refine ⟨_, g, (Gr.gdo_len G x).2.1, fun he => ?_, ⟨fun h => ?_, fun h => ?_⟩⟩
      · rw [e1] at he ⊢
        obtain ⟨a1, a2⟩ := Gr.gdo_err (s := G) (x := x) he
        rw [a2]
        refine ⟨rfl, ?_⟩
        rw [a1]
        exact ⟨rfl, rfl, rfl⟩
      · rw [e1, Gr.gdo_out h]
        exact ⟨rfl, by omega, by omega⟩
      · rw [e1] at h
        have := Gr.gdo_one (s := G) (x := x) h.1
        omega
section
variable {W w : World} {oo : Nat → Prop} {L : List Pr} {hb kc : Nat} {c : CF} {G : Gr.GS}
theorem doO_g (kd xa xb xc xv : Int) (hx : (⟨kd, xa, xb, xc, xv⟩ : A5).wf) (h : SepO W oo w L) (i : Nat) (hi : L[i]? = some (Hgg hb kc c G)) : Calls Tryz.prog 18 #[pt hb, .agg #[.int .i64 kd, .int .i64 xa, .int .i64 xb, .int .i64 xc, .int .u64 xv]] w fun e w' => ∃ (a : An) (G' : Gr.GS), e = .returned a.val ∧ OddA ⟨kd, xa, xb, xc, xv⟩ a G G' ∧ SepO W oo w' (L.set i (Hgg hb kc c G')) := by
  obtain ⟨S, hg, h1⟩ := hgg_open h hi
  have hl := (List.getElem?_eq_some_iff.1 hi).1
  refine (Do_sep kd xa xb xc xv hx hg.ok h1 i (by rw [List.getElem?_set_self hl])).mono ?_
  rintro e w' ⟨rfl, h2⟩
  rw [List.set_set] at h2
  obtain ⟨G', g, o⟩ := hg.odd _ hx
  exact ⟨_, G', rfl, o, hgg_shut hi g h2⟩
end
end Go.Proofs.YtihmkkjmnbehbaaGreat.Wh
/- The contract of Same, where both graphs are told alike. No condition. -/
set_option linter.unusedVariables false
set_option linter.unusedSimpArgs false
namespace Go.Proofs.YtihmkkjmnbehbaaGreat.Sm
open Go.RowKit Go.Proofs.YtihmkkjmnbehbaaGreat.W
theorem NS_row {w : World} {ok : Nat → Prop} {v : Value} {L : List (List Int × List Int)} (h : NS w ok v L) {j : Nat} (hj : j < L.length) : ∃ b o c r, v = .slice (some ⟨b, o, none⟩) L.length c ∧ w.cell? ⟨b, o + j * 2, none⟩ = some (N2.pv r) ∧ w.cell? ⟨b, o + j * 2 + 1, none⟩ = some r.sv ∧ SL w ok .i64 r.pv (L[j]'hj).1 ∧ SL w ok .u64 r.sv (L[j]'hj).2 := by
  obtain ⟨rows, e, ⟨A, c, h1, h2, h3⟩, h4⟩ := h
  have hl : L.length = rows.length := by rw [← e]; simp
  obtain ⟨b, o, rfl, _, _, hc⟩ := h3 (by omega)
  have hr : rows[j]? = some (rows[j]'(by omega)) := List.getElem?_eq_getElem (by omega)
  refine ⟨b, o, c, rows[j]'(by omega), by rw [hl]; exact h1, hc j _ hr 0 _ rfl, hc j _ hr 1 _ rfl, ?_⟩
  have h5 := h4 _ (List.getElem_mem (by omega : j < rows.length))
  subst e
  simpa using h5
set_option maxHeartbeats 4000000 in
set_option maxRecDepth 100000 in
theorem Same_calls {ok1 ok2 ok3 ok4 : Nat → Prop} {v1 v2 x1 x2 : Value} {L : List (List Int × List Int)} {H : List Int} (w : World) (h1 : NS w ok1 v1 L) (h2 : SL w ok2 .i64 x1 H) (h3 : NS w ok3 v2 L) (h4 : SL w ok4 .i64 x2 H) :
    Calls Tryz.prog 30 #[v1, x1, v2, x2] w fun e w' => e = .returned (.bool true) ∧ ∃ n, w' = w.drewN n := by
  obtain ⟨A1, c1, rfl, hL⟩ := h1.len
  obtain ⟨A3, c3, rfl, _⟩ := h3.len
  obtain ⟨A2, c2, rfl, hH, hc2⟩ := h2
  obtain ⟨A4, c4, rfl, _, hc4⟩ := h4
  have H1 := Lib.hid h1
  have H3 := Lib.hid h3
  have HC2 := Lib.hid hc2
  have HC4 := Lib.hid hc4
  clear h1 h3 hc2 hc4
  go_enter Tryz.func30, Tryz.ntmps30
  go_wp2_with fail
  go_loopg [9] H.length (fun gk z wr => ∃ (j n : Nat), j + gk = H.length ∧ z = .int .i64 j ∧ wr = w.drewN n)
  case atStart => exact ⟨0, 0, by omega, rfl, rfl⟩
  case round =>
    obtain ⟨j, n, hj, rfl, rfl⟩ := hrel
    have HJ := Lib.hid hj
    have hjl : j ≤ H.length := by omega
    clear hj
    by_cases hlt : j < H.length
    · obtain ⟨b2, o2, rfl, _, _, d2⟩ := HC2.out (by omega)
      obtain ⟨b4, o4, rfl, _, _, d4⟩ := HC4.out (by omega)
      have e2 := d2 j hlt
      have e4 := d4 j hlt
      clear d2 d4
      generalize H[j]?.getD 0 = y at e2 e4
      have hb : (y != y) = false := by simp
      go_wp2_with fail
      go_quiet (fail)
      go_wp2_with fail
      go_roundg (gk - 1)
      case measure => have := HJ.out; omega
      case rel => exact ⟨j + 1, _, by have := HJ.out; omega, by go_num, by first | rfl | exact World.drewN_drewN _ _ _⟩
    · go_wp2_with fail
      go_loopg [10] L.length (fun gk z wr => ∃ (j n : Nat), j + gk = L.length ∧ z = .int .i64 j ∧ wr = w.drewN n)
      case atStart => exact ⟨0, n, by omega, rfl, rfl⟩
      case round =>
        clear HJ hjl hlt
        rename_i gk0
        obtain ⟨j, n, hj, rfl, rfl⟩ := hrel
        have HJ := Lib.hid hj
        have hjl : j ≤ L.length := by omega
        clear hj
        by_cases hlt : j < L.length
        · obtain ⟨b1, o1, k1, r1, e1, p1, q1, s1, t1⟩ := NS_row H1.out hlt
          obtain ⟨b3, o3, k3, r3, e3, p3, q3, s3, t3⟩ := NS_row H3.out hlt
          simp only [Value.slice.injEq, true_and] at e1 e3
          obtain ⟨rfl, rfl⟩ := e1
          obtain ⟨rfl, rfl⟩ := e3
          obtain ⟨X, hX⟩ : ∃ X, L[j] = X := ⟨_, rfl⟩
          rw [hX] at s1 t1 s3 t3
          obtain ⟨P1, m1, ep1, l1, f1⟩ := s1
          obtain ⟨P3, m3, ep3, l3, f3⟩ := s3
          obtain ⟨Q1, u1, eq1, l1', g1⟩ := t1
          obtain ⟨Q3, u3, eq3, l3', g3⟩ := t3
          rw [ep1] at p1
          rw [ep3] at p3
          rw [eq1] at q1
          rw [eq3] at q3
          obtain ⟨gz, hgz⟩ : ∃ x, x = gk := ⟨_, rfl⟩
          have F1 := Lib.hid f1
          have F3 := Lib.hid f3
          have G1 := Lib.hid g1
          have G3 := Lib.hid g3
          clear f1 f3 g1 g3 ep1 ep3 eq1 eq3 hX
          subst hgz
          go_wp2_with fail
          go_quiet (fail)
          go_wp2_with fail
          go_loopg [11] X.1.length (fun gk z wr => ∃ (i n : Nat), i + gk = X.1.length ∧ z = .int .i64 i ∧ wr = w.drewN n)
          case atStart => exact ⟨0, _, by omega, rfl, by first | rfl | exact World.drewN_drewN _ _ _⟩
          case round =>
            obtain ⟨i, n, hi, rfl, rfl⟩ := hrel
            have HI := Lib.hid hi
            have hil : i ≤ X.1.length := by omega
            clear hi
            by_cases hlt2 : i < X.1.length
            · obtain ⟨bp, op, rfl, _, _, dp⟩ := F1.out (by omega)
              obtain ⟨bq, oq, rfl, _, _, dq⟩ := F3.out (by omega)
              have ep := dp i hlt2
              have eq := dq i hlt2
              clear dp dq
              generalize X.1[i]?.getD 0 = y at ep eq
              have hb : (y != y) = false := by simp
              go_wp2_with fail
              go_quiet (fail)
              go_wp2_with fail
              go_roundg (gk - 1)
              case measure => have := HI.out; omega
              case rel => exact ⟨i + 1, _, by have := HI.out; omega, by go_num, by first | rfl | exact World.drewN_drewN _ _ _⟩
            · go_wp2_with fail
              go_loopg [12] X.2.length (fun gk z wr => ∃ (i n : Nat), i + gk = X.2.length ∧ z = .int .i64 i ∧ wr = w.drewN n)
              case atStart => exact ⟨0, n, by omega, rfl, rfl⟩
              case round =>
                clear HI hil hlt2
                obtain ⟨i, n, hi, rfl, rfl⟩ := hrel
                have HI := Lib.hid hi
                have hil : i ≤ X.2.length := by omega
                clear hi
                by_cases hlt2 : i < X.2.length
                · obtain ⟨bp, op, rfl, _, _, dp⟩ := G1.out (by omega)
                  obtain ⟨bq, oq, rfl, _, _, dq⟩ := G3.out (by omega)
                  have ep := dp i hlt2
                  have eq := dq i hlt2
                  clear dp dq
                  generalize X.2[i]?.getD 0 = y at ep eq
                  have hb : (y != y) = false := by simp
                  go_wp2_with fail
                  go_quiet (fail)
                  go_wp2_with fail
                  go_roundg (gk - 1)
                  case measure => have := HI.out; omega
                  case rel => exact ⟨i + 1, _, by have := HI.out; omega, by go_num, by first | rfl | exact World.drewN_drewN _ _ _⟩
                · go_wp2_with fail
                  go_roundg (gz - 1)
                  case measure => have := HJ.out; omega
                  case rel => exact ⟨j + 1, _, by have := HJ.out; omega, by go_num, by first | rfl | exact World.drewN_drewN _ _ _⟩
        · go_wp2_with fail
          go_ret
          exact ⟨rfl, _, rfl⟩
end Go.Proofs.YtihmkkjmnbehbaaGreat.Sm
/- Errors as a contract. Condition: what is taken in reads as lists. -/
set_option linter.unusedVariables false
set_option linter.unusedSimpArgs false
namespace Go.Proofs.YtihmkkjmnbehbaaGreat.Wh
open Go.RowKit Go.Proofs.YtihmkkjmnbehbaaGreat.W Go.Proofs.YtihmkkjmnbehbaaGreat.Sm
theorem step_at {w wr : World} {A : Option Addr} {l1 : List A5} (hc : 0 < l1.length → ∃ b o, A = some ⟨b, o, none⟩ ∧ (fun i => i < w.heap.size) b ∧ b < w.heap.size ∧ ∀ j x, l1[j]? = some x → ∀ i u, (A5.cells x)[i]? = some u → w.cell? ⟨b, o + (j * 5 + i), none⟩ = some u)
    (hk : Keep (fun _ => False) w wr) {k : Nat} (hlt : k < l1.length) : ∃ b o x, l1[k]? = some x ∧ A = some ⟨b, o, none⟩ ∧ wr.cell? ⟨b, o + k * 5, none⟩ = some (.int .i64 x.kind) ∧ wr.cell? ⟨b, o + k * 5 + 1, none⟩ = some (.int .i64 x.a) ∧ wr.cell? ⟨b, o + k * 5 + 2, none⟩ = some (.int .i64 x.b) ∧ wr.cell? ⟨b, o + k * 5 + 3, none⟩ = some (.int .i64 x.c) ∧ wr.cell? ⟨b, o + k * 5 + 4, none⟩ = some (.int .u64 x.v) := by
  obtain ⟨b, o, hA, _, hlt2, hcell⟩ := hc (by omega)
  have hx : l1[k]? = some (l1[k]'hlt) := List.getElem?_eq_getElem hlt
  have e : ∀ i u, (A5.cells l1[k])[i]? = some u → wr.cell? ⟨b, o + k * 5 + i, none⟩ = some u := fun i u hu => by
    rw [Nat.add_assoc]
    exact (World.cell?_of_block (hk.block b hlt2 (fun h => h))).trans (hcell k _ hx i u hu)
  exact ⟨b, o, _, hx, hA, e 0 _ rfl, e 1 _ rfl, e 2 _ rfl, e 3 _ rfl, e 4 _ rfl⟩
section
variable {W w : World} {oo : Nat → Prop} {l : List Pr}
theorem nodes_of_part (h : SepO W oo w l) {v : Value} {L : List (List Int × List Int)} (k : Nat) (hk : l[k]? = some (NodesP v L)) : NS w (fun i => i < w.heap.size) v L := by
  obtain ⟨o, hp, ho⟩ := h.get k hk
  exact NS.mono hp (fun i hi => (ho i hi).2)
theorem ints_of_part (h : SepO W oo w l) {v : Value} {L : List Int} (k : Nat) (hk : l[k]? = some (IntsP v L)) : SL w (fun i => i < w.heap.size) .i64 v L := by
  obtain ⟨o, hp, ho⟩ := h.get k hk
  exact SL.mono hp (fun i hi => (ho i hi).2)
end
section
variable {W w : World} {oo : Nat → Prop} {L l m : List Pr} {hb kc : Nat} {c : CF} {G : Gr.GS} {H : Pr}
theorem Core_g (h : SepO W oo w L) (i : Nat) (hi : L[i]? = some (Hgg hb kc c G)) : Calls Tryz.prog 23 #[pt hb] w fun e w' => e = .returned (pt kc) ∧ SepO W oo w' L := by
  obtain ⟨S, hg, h1⟩ := hgg_open h hi
  have hl := (List.getElem?_eq_some_iff.1 hi).1
  refine (Core_sep h1 i (by rw [List.getElem?_set_self hl])).mono ?_
  rintro e w' ⟨rfl, h2⟩
  have := hgg_shut hi hg h2
  rw [list_same hi] at this
  exact ⟨rfl, this⟩
theorem ix_c (k : Nat) : (H :: (l ++ m))[l.length + k + 1]? = m[k]? := by
  rw [List.getElem?_cons_succ, List.getElem?_append_right (by omega), Nat.add_sub_cancel_left]
end
set_option maxRecDepth 20000 in
set_option maxHeartbeats 8000000 in
theorem Errors_calls (a b d e : Int) (ha : U8 a) (hb0 : U8 b) (hd : U8 d) (he : U8 e) (w : World) {v : Value} {st : List A5} (g1 : SS w (fun i => i < w.heap.size) A5.cells 5 v st) (q1 : ∀ x ∈ st, A5.wf x) {v2 : Value} {od : List A5} (g2 : SS w (fun i => i < w.heap.size) A5.cells 5 v2 od) (q2 : ∀ x ∈ od, A5.wf x) : Calls Tryz.prog 12 #[.int .u8 a, .int .u8 b, .int .u8 d, .int .u8 e, v, v2] w fun e' w' => e' = .returned (.bool true) ∧ Below w.heap.size w w' := by
  have hm : CFmay (cfg a b d e) := cfg_may ha hb0 hd he
  have hn0 : ∀ C : CF, cfg a b d e = C → 0 ≤ C.h := by
    rintro _ rfl
    unfold U8 at ha hb0 hd he
    (repeat' constructor) <;> (try simp only [cfg]) <;> omega
  have HM := Lib.hid hm
  have HF := Lib.hid hn0
  obtain ⟨A1, cp1, rfl, hm1, hc1⟩ := g1
  obtain ⟨A2, cp2, rfl, hm2, hc2⟩ := g2
  have HC1 := Lib.hid hc1
  have HC2 := Lib.hid hc2
  have Q1 := Lib.hid q1
  have Q2 := Lib.hid q2
  clear hc1 q1 hc2 q2
  clear hm hn0
  go_enter Tryz.func12, Tryz.ntmps12
  go_wp2_with fail
  refine (config_l (a := a) (b := b) (d := d) (e := e) ha hb0 hd he (Sep.nil w)).mono ?_
  rintro e1 w1 ⟨rfl, h1⟩
  have H1 := Lib.hid h1
  clear h1
  go_wp2_with fail
  refine (hNew_g (c := cfg a b d e) HM.out (H1.out.alloc _)).mono ?_
  rintro e2 w2 ⟨hb, kc, rfl, h2⟩
  obtain ⟨c, hc⟩ : ∃ c : CF, cfg a b d e = c := ⟨_, rfl⟩
  have hF := HF.out c hc
  have hm := HM.out
  rw [hc] at h2 hm
  replace h2 : SepO w (fun _ => False) w2 [Hst hb kc c (Gr.gnew c.h c.l) 0] := by
    exact h2
  have H2 := Lib.hid h2
  have HOK := Lib.hid hm.ok
  clear h2 H1 HM HF hm
  go_wp2_with fail
  refine (wakes_l H2.out).mono ?_
  rintro e3 w3 ⟨rfl, h3⟩
  have H3 := Lib.hid h3
  clear h3 H2
  go_wp2_with fail
  clear hF hc
  replace H3 := Lib.hid (hst_gg (i := 0) H3.out rfl)
  replace H3 : Hid (SepO w (fun _ => False) w3 [Hgg hb kc c (Gr.gnew c.h c.l)]) := H3
  go_loopg [16] 60 (fun gk z wr => ∃ (j : Nat) (G : Gr.GS), j + gk = 60 ∧ z = .int .i64 j ∧ SepO w (fun _ => False) wr [Hgg hb kc c G] ∧ G.nodes.length ≤ j)
  case atStart => exact ⟨0, _, by omega, rfl, H3.out, by simp [Gr.gnew]⟩
  case round =>
    clear H3
    obtain ⟨j, G, hj, rfl, h, hno⟩ := hrel
    have HJ := Lib.hid hj
    have hj60 : j ≤ 60 := by omega
    clear hj
    by_cases hc : j < st.length ∧ j < 60
    · obtain ⟨hlt, hlt2⟩ := hc
      obtain ⟨b1, o1, x, hx, rfl, y0, y1, y2, y3, y4⟩ := step_at HC1.out h.keep0 hlt
      have hwf := Q1.out x (List.mem_of_getElem? hx)
      obtain ⟨x0, x1, x2, x3, x4⟩ := x
      have hdo := doO_g x0 x1 x2 x3 x4 hwf h 0 rfl
      have HD := Lib.hid hdo
      clear h hdo hx hwf
      go_wp2_with fail
      refine HD.out.mono ?_
      rintro e w2 ⟨an, G', rfl, ho, h2⟩
      have hlen := ho.len
      have H2 := Lib.hid h2
      clear h2 HD ho
      go_wp2_with fail
      go_roundg (gk - 1)
      case measure => have := HJ.out; omega
      case rel => exact ⟨j + 1, G', by have := HJ.out; omega, by go_num, H2.out, by omega⟩
    · have H4 := Lib.hid h
      clear h HJ
      rcases (by omega : ¬ j < st.length ∨ (j < st.length ∧ ¬ j < 60)) with hx | ⟨hx, hx'⟩
      all_goals
        as_aux_lemma =>
        clear hc
        go_wp2_with fail
        go_loopg [17] 30 (fun gk z wr => ∃ (i : Nat) (G : Gr.GS) (l : List Pr), i + gk = 30 ∧ z = .int .i64 i ∧ SepO w (fun _ => False) wr (Hgg hb kc c G :: l) ∧ G.nodes.length ≤ 60 + i)
        case atStart => exact ⟨0, G, [], by omega, rfl, H4.out, by omega⟩
        case round =>
          clear H4
          obtain ⟨i, G, l, hi, rfl, h, hno⟩ := hrel
          have HI := Lib.hid hi
          have hi30 : i ≤ 30 := by omega
          clear hi
          by_cases hc : i < od.length ∧ i < 30
          · obtain ⟨hlt, hlt2⟩ := hc
            obtain ⟨b2, o2, x, hx, rfl, y0, y1, y2, y3, y4⟩ := step_at HC2.out h.keep0 hlt
            have hwf := Q2.out x (List.mem_of_getElem? hx)
            have hcs : ∀ w', Keep (fun _ => False) w w' → (w'.cell? ⟨b2, o2 + i * 5, none⟩ = some (.int .i64 x.kind) ∧ w'.cell? ⟨b2, o2 + i * 5 + 1, none⟩ = some (.int .i64 x.a) ∧ w'.cell? ⟨b2, o2 + i * 5 + 2, none⟩ = some (.int .i64 x.b) ∧ w'.cell? ⟨b2, o2 + i * 5 + 3, none⟩ = some (.int .i64 x.c) ∧ w'.cell? ⟨b2, o2 + i * 5 + 4, none⟩ = some (.int .u64 x.v)) := fun w' hk => by
              obtain ⟨b', o', x', hx', hA, z⟩ := step_at HC2.out hk hlt
              cases hA
              rw [hx] at hx'; cases hx'
              exact z
            obtain ⟨x0, x1, x2, x3, x4⟩ := x
            have HWF := Lib.hid hwf
            have HCS := Lib.hid hcs
            have H5 := Lib.hid h
            clear h hx hwf y0 y1 y2 y3 y4 hcs
            go_wp2_with fail
            refine (Core_g H5.out 0 rfl).mono ?_
            rintro e w5 ⟨rfl, h5⟩
            have H6 := Lib.hid h5
            clear h5 H5
            go_wp2_with fail
            refine (Nodes_g (by omega) H6.out).mono ?_
            rintro e w6 ⟨n1, z1, rfl, h6⟩
            obtain ⟨y0, y1, y2, y3, y4⟩ := HCS.out _ h6.keep0
            have H7 := Lib.hid h6
            clear h6 H6
            go_wp2_with fail
            refine (doO_g x0 x1 x2 x3 x4 HWF.out H7.out 0 rfl).mono ?_
            rintro e w7 ⟨⟨r0, r1, r2, r3⟩, G', rfl, ho, h7⟩
            rw [List.set_cons_zero] at h7
            have h8 := h7.new_blk 33 #[.int .i64 r0, .bool r1, .int .i64 r2, .int .u64 r3]
            rw [List.cons_append] at h8
            have hlen := ho.len
            have HO := Lib.hid ho
            have H8 := Lib.hid h8
            simp only [An.val]
            generalize hz : w7.heap.size = z at *
            clear h7 h8 H7 ho y0 y1 y2 y3 y4
            go_wp2_with fail
            refine (Core_g H8.out 0 rfl).mono ?_
            rintro e w9 ⟨rfl, h9⟩
            have H9 := Lib.hid h9
            clear h9 H8
            go_wp2_with fail
            refine (Nodes_g (by omega) H9.out).mono ?_
            rintro e w10 ⟨n2, z2, rfl, h10⟩
            have h11 : SepO w (fun _ => False) w10 (Hgg hb kc c G' :: (l ++ [NodesP n1 (Gr.shown G), IntsP z1 (Gr.helds G), blkP z 33 #[.int .i64 r0, .bool r1, .int .i64 r2, .int .u64 r3], NodesP n2 (Gr.shown G'), IntsP z2 (Gr.helds G')])) := by simpa using h10
            have hfa : ∀ w', SepO w (fun _ => False) w' (Hgg hb kc c G' :: (l ++ [NodesP n1 (Gr.shown G), IntsP z1 (Gr.helds G), blkP z 33 #[.int .i64 r0, .bool r1, .int .i64 r2, .int .u64 r3], NodesP n2 (Gr.shown G'), IntsP z2 (Gr.helds G')])) → w'.cell? ⟨b2, o2 + i * 5, none⟩ = some (.int .i64 x0) ∧ w'.cell? ⟨z, 0, none⟩ = some (.int .i64 r0) ∧ w'.cell? ⟨z, 1, none⟩ = some (.bool r1) ∧ w'.cell? ⟨z, 2, none⟩ = some (.int .i64 r2) ∧ w'.cell? ⟨z, 3, none⟩ = some (.int .u64 r3) ∧ z < w'.heap.size := fun w' h' => by
              have hb3 := h'.blk (g := z) (t := 33) (cs := #[.int .i64 r0, .bool r1, .int .i64 r2, .int .u64 r3]) (l.length + 2 + 1) (ix_c 2)
              exact ⟨(HCS.out _ h'.keep0).1, hb3.cell 0, hb3.cell 1, hb3.cell 2, hb3.cell 3, hb3.lt⟩
            obtain ⟨y0, q0, q1, q2, q3, zl⟩ := hfa _ h11
            have HFA := Lib.hid hfa
            clear hfa
            have s1 := nodes_of_part h11 (l.length + 0 + 1) (ix_c 0)
            have s2 := ints_of_part h11 (l.length + 1 + 1) (ix_c 1)
            have s3 := nodes_of_part h11 (l.length + 3 + 1) (ix_c 3)
            have s4 := ints_of_part h11 (l.length + 4 + 1) (ix_c 4)
            have H11 := Lib.hid h11
            have S1 := Lib.hid s1
            have S2 := Lib.hid s2
            have S3 := Lib.hid s3
            have S4 := Lib.hid s4
            clear h10 h11 H9 hz s1 s2 s3 s4
            by_cases hr : r0 = 0
            · have hb0 : (r0 != 0) = false := by simpa using hr
              have H12 := H11
              clear hr H11 S1 S2 S3 S4
              go_wp2_with fail
              have harg := HO.out.arg
              simp only [] at harg
              rcases (by omega : (x0 < 1 ∧ r0 = 1) ∨ (¬ x0 < 1 ∧ 12 < x0 ∧ r0 = 1) ∨ (¬ x0 < 1 ∧ ¬ 12 < x0 ∧ ¬ r0 = 1) ∨ (x0 = 11 ∧ r0 = 1) ∨ (x0 = 12 ∧ r0 = 1)) with ⟨k1, k2⟩ | ⟨k1, k2, k3⟩ | ⟨k1, k2, k3⟩ | ⟨k1, k2⟩ | ⟨k1, k2⟩
              all_goals clear harg HO
              · subst k2
                have b1 : decide (x0 < 1) = true := by simpa using k1
                have b2 : (x0 != 11) = true := by simp; omega
                have b3 : (x0 != 12) = true := by simp; omega
                go_quiet (fail)
                go_wp2_with fail
                go_roundg (gk - 1)
                case measure => have := HI.out; omega
                case rel => exact ⟨i + 1, G', _, by have := HI.out; omega, by go_num, by first | exact H12.out | exact H12.out.drewN _, by omega⟩
              · subst k3
                have b1 : decide (x0 < 1) = false := by simpa using k1
                have b4 : decide (12 < x0) = true := by simpa using k2
                have b2 : (x0 != 11) = true := by simp; omega
                have b3 : (x0 != 12) = true := by simp; omega
                go_quiet (fail)
                go_wp2_with fail
                go_roundg (gk - 1)
                case measure => have := HI.out; omega
                case rel => exact ⟨i + 1, G', _, by have := HI.out; omega, by go_num, by first | exact H12.out | exact H12.out.drewN _, by omega⟩
              · have b1 : decide (x0 < 1) = false := by simpa using k1
                have b4 : decide (12 < x0) = false := by simpa using k2
                have b2 : (r0 == 1) = false := by simpa using k3
                go_quiet (fail)
                go_wp2_with fail
                go_roundg (gk - 1)
                case measure => have := HI.out; omega
                case rel => exact ⟨i + 1, G', _, by have := HI.out; omega, by go_num, by first | exact H12.out | exact H12.out.drewN _, by omega⟩
              · subst k1 k2
                go_quiet (fail)
                go_wp2_with fail
                go_roundg (gk - 1)
                case measure => have := HI.out; omega
                case rel => exact ⟨i + 1, G', _, by have := HI.out; omega, by go_num, by first | exact H12.out | exact H12.out.drewN _, by omega⟩
              · subst k1 k2
                go_quiet (fail)
                go_wp2_with fail
                go_roundg (gk - 1)
                case measure => have := HI.out; omega
                case rel => exact ⟨i + 1, G', _, by have := HI.out; omega, by go_num, by first | exact H12.out | exact H12.out.drewN _, by omega⟩
            · have hb0 : (r0 != 0) = true := by simpa using hr
              obtain ⟨eg, e1, e2, e3⟩ := HO.out.err hr
              simp only [] at e1 e2 e3
              subst eg e1 e2 e3
              go_wp2_with fail
              refine (Same_calls _ S1.out S2.out S3.out S4.out).mono ?_
              rintro e w11 ⟨rfl, nn, hw⟩
              have h12 := H11.out.drewN nn
              rw [← hw] at h12
              obtain ⟨y0, q0, q1, q2, q3, zl⟩ := HFA.out _ h12
              have H12 := Lib.hid h12
              clear h12 hw H11 S1 S2 S3 S4 hr
              go_wp2_with fail
              have harg := HO.out.arg
              simp only [] at harg
              rcases (by omega : (x0 < 1 ∧ r0 = 1) ∨ (¬ x0 < 1 ∧ 12 < x0 ∧ r0 = 1) ∨ (¬ x0 < 1 ∧ ¬ 12 < x0 ∧ ¬ r0 = 1) ∨ (x0 = 11 ∧ r0 = 1) ∨ (x0 = 12 ∧ r0 = 1)) with ⟨k1, k2⟩ | ⟨k1, k2, k3⟩ | ⟨k1, k2, k3⟩ | ⟨k1, k2⟩ | ⟨k1, k2⟩
              all_goals clear harg HO
              · subst k2
                have b1 : decide (x0 < 1) = true := by simpa using k1
                have b2 : (x0 != 11) = true := by simp; omega
                have b3 : (x0 != 12) = true := by simp; omega
                go_quiet (fail)
                go_wp2_with fail
                go_roundg (gk - 1)
                case measure => have := HI.out; omega
                case rel => exact ⟨i + 1, G', _, by have := HI.out; omega, by go_num, by first | exact H12.out | exact H12.out.drewN _, by omega⟩
              · subst k3
                have b1 : decide (x0 < 1) = false := by simpa using k1
                have b4 : decide (12 < x0) = true := by simpa using k2
                have b2 : (x0 != 11) = true := by simp; omega
                have b3 : (x0 != 12) = true := by simp; omega
                go_quiet (fail)
                go_wp2_with fail
                go_roundg (gk - 1)
                case measure => have := HI.out; omega
                case rel => exact ⟨i + 1, G', _, by have := HI.out; omega, by go_num, by first | exact H12.out | exact H12.out.drewN _, by omega⟩
              · have b1 : decide (x0 < 1) = false := by simpa using k1
                have b4 : decide (12 < x0) = false := by simpa using k2
                have b2 : (r0 == 1) = false := by simpa using k3
                go_quiet (fail)
                go_wp2_with fail
                go_roundg (gk - 1)
                case measure => have := HI.out; omega
                case rel => exact ⟨i + 1, G', _, by have := HI.out; omega, by go_num, by first | exact H12.out | exact H12.out.drewN _, by omega⟩
              · subst k1 k2
                go_quiet (fail)
                go_wp2_with fail
                go_roundg (gk - 1)
                case measure => have := HI.out; omega
                case rel => exact ⟨i + 1, G', _, by have := HI.out; omega, by go_num, by first | exact H12.out | exact H12.out.drewN _, by omega⟩
              · subst k1 k2
                go_quiet (fail)
                go_wp2_with fail
                go_roundg (gk - 1)
                case measure => have := HI.out; omega
                case rel => exact ⟨i + 1, G', _, by have := HI.out; omega, by go_num, by first | exact H12.out | exact H12.out.drewN _, by omega⟩
          · have H5 := Lib.hid h
            clear h
            rcases (by omega : ¬ i < od.length ∨ (i < od.length ∧ ¬ i < 30)) with hx | ⟨hx, hx'⟩
            all_goals
              clear hc
              go_wp2_with fail
              go_ret
              exact ⟨rfl, H5.out.below⟩
end Go.Proofs.YtihmkkjmnbehbaaGreat.Wh
