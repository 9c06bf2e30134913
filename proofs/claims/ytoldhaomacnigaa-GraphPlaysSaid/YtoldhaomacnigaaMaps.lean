/- Maps of the call's own, as lists of keys and values; parts of memory. No condition. -/
import Derived.Test.YtoldhaomacnigaaSep
import Derived.Maps.Own
import Derived.Maps.OwnOps
import Derived.Maps.OwnSet
set_option linter.unusedVariables false
set_option linter.unusedSimpArgs false
namespace Go.Proofs.Ytoldhaomacnigaa.W
open Go.RowKit Go.ChangeMaps Go.MapKept

section
variable {κ : Type} [DecidableEq κ]
/-- What a list of entries has at a key. -/
def mget (al : List (κ × Value)) (k : κ) : Option Value := match al with
  | [] => none
  | p :: r => if k = p.1 then some p.2 else mget r k
/-- .. and where. -/
def mgetI (al : List (κ × Value)) (k : κ) (i : Nat) : Option (Nat × Value) := match al with
  | [] => none
  | p :: r => if k = p.1 then some (i, p.2) else mgetI r k (i + 1)
/-- An entry is set. -/
def mput (al : List (κ × Value)) (k : κ) (v : Value) : List (κ × Value) := match al with
  | [] => [(k, v)]
  | p :: r => if k = p.1 then (k, v) :: r else p :: mput r k v
theorem mgetI_map (al : List (κ × Value)) (k : κ) (i : Nat) : (mgetI al k i).map (·.2) = mget al k := by
  induction al generalizing i with
  | nil => rfl
  | cons p r ih => unfold mgetI mget; split <;> simp [ih]
theorem mgetI_some {al : List (κ × Value)} {k : κ} {i j : Nat} {v : Value} (h : mgetI al k i = some (j, v)) : ∃ n, j = i + n ∧ al[n]? = some (k, v) ∧ ∀ u, mput al k u = al.set n (k, u) := by
  induction al generalizing i with
  | nil => cases h
  | cons p r ih =>
    unfold mgetI at h
    split at h
    · rename_i hk
      simp at h
      obtain ⟨rfl, rfl⟩ := h
      exact ⟨0, by simp, by simp [hk], fun u => by simp [mput, hk]⟩
    · rename_i hk
      obtain ⟨n, e1, e2, e3⟩ := ih h
      exact ⟨n + 1, by omega, by simpa using e2, fun u => by simp [mput, hk, e3]⟩
theorem mgetI_none {al : List (κ × Value)} {k : κ} {i : Nat} (h : mgetI al k i = none) : ∀ u, mput al k u = al ++ [(k, u)] := by
  induction al generalizing i with
  | nil => intro u; rfl
  | cons p r ih =>
    unfold mgetI at h
    split at h
    · cases h
    · rename_i hk
      intro u
      simp [mput, hk, ih h]
theorem mget_put_same (al : List (κ × Value)) (k : κ) (v : Value) : mget (mput al k v) k = some v := by
  induction al with
  | nil => simp [mput, mget]
  | cons p r ih => unfold mput; split <;> simp_all [mget]
theorem mget_put_other (al : List (κ × Value)) {k j : κ} (h : j ≠ k) (v : Value) : mget (mput al k v) j = mget al j := by
  induction al with
  | nil => simp [mput, mget, h]
  | cons p r ih =>
    unfold mput
    split
    · rename_i hk; subst hk; simp [mget, h]
    · simp [mget, ih]
theorem len_mput (al : List (κ × Value)) (k : κ) (v : Value) : (mput al k v).length = al.length + (if (mget al k).isSome then 0 else 1) := by
  induction al with
  | nil => simp [mput, mget]
  | cons p r ih =>
    unfold mput mget
    split
    · simp
    · simp [ih]; omega

/-- Keys of one kind: how they are written, and that the model finds them. -/
structure KeyKind (P : Program) (kt : TypeId) (κ : Type) [DecidableEq κ] where
  enc : κ → Value
  check : ∀ (w : World) (e : Bool) (k : κ), (Instr.checkKey e 10000 kt (enc k)).run P w = .ok () w
  find : ∀ (w : World) (k : κ) (es : List MapEntry) (al : List (κ × Value)), es.map (fun e => (e.key, e.val)) = al.map (fun p => (enc p.1, p.2)) → (Instr.findKey kt (enc k) es).run P w = .ok (mgetI al k 0) w
  stays : ∀ (w : World) (k : κ), (Instr.keyThatStays (enc k) (enc k)).run P w = .ok (enc k) w

/-- Block g is a map that has just the entries of a list. -/
def Mp {P : Program} {kt : TypeId} (K : KeyKind P kt κ) (w : World) (g : Nat) (al : List (κ × Value)) : Prop :=
  ∃ es clock, w.heap[g]? = some (.map es clock) ∧ es.toList.map (fun e => (e.key, e.val)) = al.map (fun p => (K.enc p.1, p.2))
section
variable {P : Program} {kt : TypeId} {K : KeyKind P kt κ} {w w' : World} {g : Nat} {al : List (κ × Value)}
theorem Mp.lt (h : Mp K w g al) : g < w.heap.size := by
  obtain ⟨es, c, h, _⟩ := h
  exact (Array.getElem?_eq_some_iff.1 h).1
theorem Mp.same (h : Mp K w g al) (hw : w'.heap[g]? = w.heap[g]?) : Mp K w' g al := by
  obtain ⟨es, c, h1, h2⟩ := h
  exact ⟨es, c, hw.trans h1, h2⟩
theorem Mp.made (K : KeyKind P kt κ) (w : World) : Mp K (w.alloc (.map #[] 0)) w.heap.size [] := ⟨#[], 0, by unfold World.alloc; simp, rfl⟩
theorem Mp.size (h : Mp K w g al) : ∃ es c, w.heap[g]? = some (.map es c) ∧ es.size = al.length := by
  obtain ⟨es, c, h1, h2⟩ := h
  refine ⟨es, c, h1, ?_⟩
  have := congrArg List.length h2
  simpa using this
theorem Mp.run_lookup (h : Mp K w g al) {t e : TypeId} (ht : P.underlying t = some (.map kt e)) {z : Value} (hz : ∀ w, (zeroValue e).run P w = .ok z w) (k : κ) :
    (Instr.lookup t (.map (some g)) (K.enc k) false).run P w = .ok ((mget al k).getD z) w := by
  obtain ⟨es, c, h1, h2⟩ := h
  have hf := K.find w k es.toList al h2
  have hl := mgetI_map al k 0
  simp only [Instr.lookup, Sem.run_bind, run_underlying ht, Result.andThen_ok, MapKept.run_getObj_map h1, Sem.run_pure, K.check w es.isEmpty k, hf]
  cases hi : mgetI al k 0 with
  | none =>
    rw [hi] at hl
    simp only [Option.map_none] at hl
    rw [← hl]
    simp [hz, Result.andThen]
  | some p =>
    obtain ⟨i, v⟩ := p
    rw [hi] at hl
    simp only [Option.map_some] at hl
    rw [← hl]
    simp [Result.andThen]
theorem Mp.run_lookup_ok (h : Mp K w g al) {t e : TypeId} (ht : P.underlying t = some (.map kt e)) {z : Value} (hz : ∀ w, (zeroValue e).run P w = .ok z w) (k : κ) :
    (Instr.lookup t (.map (some g)) (K.enc k) true).run P w = .ok (.tuple #[(mget al k).getD z, .bool (mget al k).isSome]) w := by
  obtain ⟨es, c, h1, h2⟩ := h
  have hf := K.find w k es.toList al h2
  have hl := mgetI_map al k 0
  simp only [Instr.lookup, Sem.run_bind, run_underlying ht, Result.andThen_ok, MapKept.run_getObj_map h1, Sem.run_pure, K.check w es.isEmpty k, hf]
  cases hi : mgetI al k 0 with
  | none =>
    rw [hi] at hl
    simp only [Option.map_none] at hl
    rw [← hl]
    simp [hz, Result.andThen]
  | some p =>
    obtain ⟨i, v⟩ := p
    rw [hi] at hl
    simp only [Option.map_some] at hl
    rw [← hl]
    simp [Result.andThen]
theorem Mp.run_len (h : Mp K w g al) {t e : TypeId} (ht : P.underlying t = some (.map kt e)) (ty : TypeId) : (Builtin.len_ #[t] ty #[.map (some g)]).run P w = .ok (.int .i64 al.length) w := by
  obtain ⟨es, c, h1, h2⟩ := h.size
  simp [Builtin.len_, run_underlying ht, MapKept.run_getObj_map h1, Result.andThen, h2, goInt]
theorem Mp.run_update (h : Mp K w g al) {t e : TypeId} (ht : P.underlying t = some (.map kt e)) (k : κ) (v : Value) :
    ∃ w', (Instr.mapUpdate t (.map (some g)) (K.enc k) v).run P w = .ok () w' ∧ Mp K w' g (mput al k v) ∧ Keep (fun i => i = g) w w' := by
  obtain ⟨es, c, h1, h2⟩ := h
  have hf := K.find w k es.toList al h2
  have hkeep : ∀ o, Keep (fun i => i = g) w { w with heap := w.heap.setIfInBounds g o } := fun o =>
    ⟨rfl, rfl, rfl, by simp, fun i hi hn => by simp [Array.getElem?_setIfInBounds, Ne.symm hn]⟩
  have hg : g < w.heap.size := (Array.getElem?_eq_some_iff.1 h1).1
  cases hi : mgetI al k 0 with
  | none =>
    rw [hi] at hf
    refine ⟨{ w with heap := w.heap.setIfInBounds g (.map (es.push { key := K.enc k, val := v, born := c }) (c + 1)) }, ?_, ⟨_, _, by simp only [Array.getElem?_setIfInBounds, if_true, hg]; rfl, ?_⟩, hkeep _⟩
    · simp [Instr.mapUpdate, run_underlying ht, MapKept.run_getObj_map h1, K.check w false k, hf, MapKept.run_setObj_map _ h1, Result.andThen]
    · rw [mgetI_none hi v]
      simp [h2]
  | some p =>
    obtain ⟨i, u⟩ := p
    rw [hi] at hf
    obtain ⟨n, e1, e2, e3⟩ := mgetI_some hi
    simp at e1
    subst e1
    have hlen : es.size = al.length := by simpa using congrArg List.length h2
    have hil : i < es.size := by rw [hlen]; exact (List.getElem?_eq_some_iff.1 e2).1
    have hk : es[i].key = K.enc k := by
      have := congrArg (fun l => l[i]?) h2
      simp [e2, hil] at this
      exact this.1
    refine ⟨{ w with heap := w.heap.setIfInBounds g (.map (es.modify i fun e => { e with key := K.enc k, val := v }) c) }, ?_, ⟨_, _, by simp only [Array.getElem?_setIfInBounds, if_true, hg]; rfl, ?_⟩, hkeep _⟩
    · simp [Instr.mapUpdate, run_underlying ht, MapKept.run_getObj_map h1, K.check w false k, hf, hil, hk, K.stays w k, MapKept.run_setObj_map _ h1, Result.andThen]
    · rw [e3 v]
      apply List.ext_getElem?
      intro j
      have hj := congrArg (fun l => l[j]?) h2
      simp only [List.getElem?_map, Array.getElem?_toList] at hj
      simp only [List.getElem?_map, Array.getElem?_toList, Array.getElem?_modify, List.getElem?_set]
      by_cases hij : i = j
      · subst hij
        simp [hil, hlen ▸ hil]
      · simp [hij, hj]
/-- A map as a part. -/
def mapP (K : KeyKind P kt κ) (g : Nat) (al : List (κ × Value)) : Pr :=
  ⟨fun w o => o g ∧ Mp K w g al, fun h k hn => ⟨h.1, h.2.same (k.block _ h.2.lt (fun x => hn _ h.1 x))⟩, fun h hs => ⟨hs _ h.1, h.2⟩, fun h => ⟨⟨h.1, h.2.lt⟩, h.2⟩⟩
variable {W : World} {oo : Nat → Prop} {l : List Pr}
theorem SepO.mp (h : SepO W oo w l) (k : Nat) (hk : l[k]? = some (mapP K g al)) : Mp K w g al := by obtain ⟨o, h1, _⟩ := h.get k hk; exact h1.2
theorem SepO.new_map (h : SepO W oo w l) (K : KeyKind P kt κ) : SepO W oo (w.alloc (.map #[] 0)) (l ++ [mapP K w.heap.size []]) := h.add (P := mapP K w.heap.size []) ((Keep.refl _ _).alloc _) ⟨Nat.le_refl _, Mp.made K w⟩
theorem SepO.update (h : SepO W oo w l) (k : Nat) (hk : l[k]? = some (mapP K g al)) {t e : TypeId} (ht : P.underlying t = some (.map kt e)) (x : κ) (v : Value) :
    ∃ w', (Instr.mapUpdate t (.map (some g)) (K.enc x) v).run P w = .ok () w' ∧ SepO W oo w' (l.set k (mapP K g (mput al x v))) := by
  obtain ⟨o, ⟨h1, h2⟩, _, hup⟩ := h.open0 k hk
  obtain ⟨w', hr, hm, hkk⟩ := h2.run_update ht x v
  exact ⟨w', hr, hup w' (mapP K g _) ⟨h1, hm⟩ (hkk.mono (fun i hi => .inl (hi ▸ h1)))⟩
/-- 'm[k] = v' as one step of a walk. -/
theorem wpList_update_sep {ops : Array Oper} {rest : List Oper} {o : Oper} {a : Act} {Q : Exit → Act → World → Prop} (hgd : o.guard = none) (m x v : Operand) (t : TypeId) (hop : o.op = Op.mapUpdate t m x v)
    {e : TypeId} (ht : P.underlying t = some (.map kt e)) (h : SepO W oo w l) (k : Nat) (hk : l[k]? = some (mapP K g al)) (key : κ) (val : Value) (hm : a.eval m = .map (some g)) (hx : a.eval x = K.enc key) (hv : a.eval v = val)
    (hw : ∀ w', SepO W oo w' (l.set k (mapP K g (mput al key val))) → wpList P ops Q rest (a.put o.dst undef) w') : wpList P ops Q (o :: rest) a w := by
  refine wpList_plain hgd fun K' hK' => ?_
  obtain ⟨w', hr, h'⟩ := h.update k hk ht key val
  unfold Oper.wp
  simp [execOp, hop, hm, hx, hv, hr, Result.andThen]
  exact hK' _ _ (hw w' h')
/-- 'm[k]' as one step of a walk. -/
theorem wpList_lookup_sep {ops : Array Oper} {rest : List Oper} {o : Oper} {a : Act} {Q : Exit → Act → World → Prop} (hgd : o.guard = none) (m x : Operand) (t : TypeId) (hop : o.op = Op.lookup t m x false)
    {e : TypeId} (ht : P.underlying t = some (.map kt e)) {z : Value} (hz : ∀ w, (zeroValue e).run P w = .ok z w) (h : Mp K w g al) (key : κ) (hm : a.eval m = .map (some g)) (hx : a.eval x = K.enc key)
    (hw : wpList P ops Q rest (a.put o.dst ((mget al key).getD z)) w) : wpList P ops Q (o :: rest) a w := by
  refine wpList_plain hgd fun K' hK' => ?_
  have hr := h.run_lookup ht hz key
  unfold Oper.wp
  simp [execOp, hop, hm, hx, hr, Result.andThen]
  exact hK' _ _ hw
end
end

/-- Whole numbers as keys. -/
def intKeys (P : Program) (kt : TypeId) (k : IntKind) (hk : P.underlying kt = some (.int k)) : KeyKind P kt Int where
  enc := fun n => .int k n
  check := fun w e n => run_checkKey hk (by simp [IsKey]) e 9999
  find := fun w n es al h => by
    refine run_findKey hk ?_
    have : ∀ (es : List MapEntry) (al : List (Int × Value)) (i : Nat), es.map (fun e => (e.key, e.val)) = al.map (fun p => (Value.int k p.1, p.2)) → Instr.findNow (.int k) (.int k n) es i = some (mgetI al n i) := by
      intro es
      induction es with
      | nil =>
        intro al i h
        cases al with
        | nil => rfl
        | cons _ _ => simp at h
      | cons x xs ih =>
        intro al i h
        cases al with
        | nil => simp at h
        | cons y ys =>
          simp only [List.map_cons, List.cons.injEq, Prod.mk.injEq] at h
          obtain ⟨⟨h1, h2⟩, h3⟩ := h
          unfold Instr.findNow
          rw [h1]
          simp only [Instr.sameNow, if_true]
          by_cases hn : n = y.1
          · subst hn; simp [mgetI, h2]
          · have : (n == y.1) = false := by simpa using hn
            rw [this]
            simp only [mgetI, if_neg hn]
            exact ih ys (i + 1) h3
    exact this es al 0 h
  stays := fun w n => run_keyThatStays (d := .int k) (by simp [IsKey])
end Go.Proofs.Ytoldhaomacnigaa.W
