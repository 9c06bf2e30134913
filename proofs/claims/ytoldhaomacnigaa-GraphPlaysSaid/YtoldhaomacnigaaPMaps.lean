/- Maps whose keys are pointers to blocks of their own, as lists of keys and values; parts of memory. No condition. -/
import Derived.Test.YtoldhaomacnigaaMaps
import Derived.LaidEqlPtr
set_option linter.unusedVariables false
set_option linter.unusedSimpArgs false
namespace Go.Proofs.Ytoldhaomacnigaa.W
open Go.RowKit Go.ChangeMaps Go.MapKept

/-- A pointer, by its block; none: nil. -/
def penc : Option Nat → Value
  | none => .pointer none
  | some b => .pointer (some ⟨b, 0, none⟩)
/-- The block is one of cells. -/
def pok (w : World) (k : Option Nat) : Prop := ∀ b, k = some b → ∃ t cs, Blk w b t cs
section
variable {P : Program} {kt e : TypeId} {i : TypeInfo}
theorem run_peq (hp : P.underlying kt = some (.pointer e)) (hi : P.info? e = some i) (hs : i.size ≠ 0) {w : World} {a b : Option Nat} (ha : pok w a) (hb : pok w b) : (Op.equal kt (penc a) (penc b)).run P w = .ok (decide (a = b)) w := by
  have h : ∀ d : Nat, (Op.equalIn (d + 1) kt (penc a) (penc b)).run P w = .ok (decide (a = b)) w := fun d => by
    cases a with
    | none => cases b <;> simp [penc, Op.equalIn, run_underlying hp]
    | some x =>
      cases b with
      | none => simp [penc, Op.equalIn, run_underlying hp]
      | some y =>
        obtain ⟨tx, cx, hx⟩ := ha x rfl
        obtain ⟨ty, cy, hy⟩ := hb y rfl
        by_cases hxy : x = y
        · subst hxy
          simp [penc, Op.equalIn, run_underlying hp, sizeOf, typeInfo, hi, run_sameAddr_same]
        · have hne : (⟨x, 0, none⟩ : Addr) ≠ ⟨y, 0, none⟩ := by simp [hxy]
          have hx' : w.heap[(⟨x, 0, none⟩ : Addr).block]? = some (.cells cx tx (0, 0)) := hx
          have hy' : w.heap[(⟨y, 0, none⟩ : Addr).block]? = some (.cells cy ty (0, 0)) := hy
          simp [penc, Op.equalIn, run_underlying hp, sizeOf, typeInfo, hi, hs, run_sameAddr_other w hne hx' hy', hxy]
  simp [Op.equal, Op.maxDepth, h 9999]
theorem run_peql (hp : P.underlying kt = some (.pointer e)) (hi : P.info? e = some i) (hs : i.size ≠ 0) {w : World} {a b : Option Nat} (ha : pok w a) (hb : pok w b) : (binOp .eql kt (penc a) (penc b)).run P w = .ok (.bool (decide (a = b))) w := by
  have h := run_peq hp hi hs ha hb
  cases a <;> cases b <;> (simp only [penc] at h ⊢; simp only [binOp]; rw [Sem.run_bind, h]; simp [Result.andThen])
theorem run_pneq (hp : P.underlying kt = some (.pointer e)) (hi : P.info? e = some i) (hs : i.size ≠ 0) {w : World} {a b : Option Nat} (ha : pok w a) (hb : pok w b) : (binOp .neq kt (penc a) (penc b)).run P w = .ok (.bool (!decide (a = b))) w := by
  have h := run_peq hp hi hs ha hb
  cases a <;> cases b <;> (simp only [penc] at h ⊢; simp only [binOp]; rw [Sem.run_bind, h]; simp [Result.andThen])
theorem run_pfind (hp : P.underlying kt = some (.pointer e)) (hi : P.info? e = some i) (hs : i.size ≠ 0) {w : World} {k : Option Nat} (hk : pok w k) :
    ∀ (es : List MapEntry) (al : List (Option Nat × Value)) (n : Nat), (∀ p ∈ al, pok w p.1) → es.map (fun e => (e.key, e.val)) = al.map (fun p => (penc p.1, p.2)) → (Instr.findAsking kt (penc k) es n).run P w = .ok (mgetI al k n) w := by
  intro es
  induction es with
  | nil =>
    intro al n _ h
    cases al with
    | nil => rfl
    | cons _ _ => simp at h
  | cons x xs ih =>
    intro al n ha h
    cases al with
    | nil => simp at h
    | cons y ys =>
      simp only [List.map_cons, List.cons.injEq, Prod.mk.injEq] at h
      obtain ⟨⟨h1, h2⟩, h3⟩ := h
      have he := run_peq hp hi hs hk (ha y List.mem_cons_self)
      have ih' := ih ys (n + 1) (fun p hp => ha p (List.mem_cons_of_mem _ hp)) h3
      unfold Instr.findAsking mgetI
      rw [h1]
      simp only [Sem.run_bind, he, Result.andThen_ok]
      by_cases hy : k = y.1
      · simp [hy, h2]
      · simp [hy, ih']
theorem run_pkey (hp : P.underlying kt = some (.pointer e)) (hi : P.info? e = some i) (hs : i.size ≠ 0) {w : World} {k : Option Nat} (hk : pok w k) {es : List MapEntry} {al : List (Option Nat × Value)} (ha : ∀ p ∈ al, pok w p.1) (h : es.map (fun e => (e.key, e.val)) = al.map (fun p => (penc p.1, p.2))) :
    (Instr.findKey kt (penc k) es).run P w = .ok (mgetI al k 0) w := by
  cases es with
  | nil =>
    cases al with
    | nil => simp [Instr.findKey, run_underlying hp, Instr.findNow, mgetI, Result.andThen]
    | cons _ _ => simp at h
  | cons x xs =>
    have hn : Instr.findNow (.pointer e) (penc k) (x :: xs) 0 = none := by
      unfold Instr.findNow
      cases k <;> simp [penc, Instr.sameNow]
    simp only [Instr.findKey, Sem.run_bind, run_underlying hp, Result.andThen_ok, hn]
    exact run_pfind hp hi hs hk (x :: xs) al 0 ha h
theorem run_pcheck (hp : P.underlying kt = some (.pointer e)) (w : World) (em : Bool) (k : Option Nat) : (Instr.checkKey em 10000 kt (penc k)).run P w = .ok () w := by
  unfold Instr.checkKey
  cases k <;> simp [penc, run_underlying hp, Result.andThen]
theorem run_pstays (w : World) (k : Option Nat) : (Instr.keyThatStays (penc k) (penc k)).run P w = .ok (penc k) w := by
  cases k <;> simp [penc, Instr.keyThatStays, Instr.sameBits]
/-- Block g is a map that has just the entries of a list. -/
def PMp (w : World) (g : Nat) (al : List (Option Nat × Value)) : Prop :=
  ∃ es clock, w.heap[g]? = some (.map es clock) ∧ es.toList.map (fun e => (e.key, e.val)) = al.map (fun p => (penc p.1, p.2))
variable {w w' : World} {g : Nat} {al : List (Option Nat × Value)}
theorem PMp.lt (h : PMp w g al) : g < w.heap.size := by
  obtain ⟨es, c, h, _⟩ := h
  exact (Array.getElem?_eq_some_iff.1 h).1
theorem PMp.same (h : PMp w g al) (hw : w'.heap[g]? = w.heap[g]?) : PMp w' g al := by
  obtain ⟨es, c, h1, h2⟩ := h
  exact ⟨es, c, hw.trans h1, h2⟩
theorem PMp.made (w : World) : PMp (w.alloc (.map #[] 0)) w.heap.size [] := ⟨#[], 0, by unfold World.alloc; simp, rfl⟩
theorem PMp.run_lookup (h : PMp w g al) {t v : TypeId} (ht : P.underlying t = some (.map kt v)) (hp : P.underlying kt = some (.pointer e)) (hi : P.info? e = some i) (hs : i.size ≠ 0) {z : Value} (hz : ∀ w, (zeroValue v).run P w = .ok z w) {k : Option Nat} (hk : pok w k) (ha : ∀ p ∈ al, pok w p.1) :
    (Instr.lookup t (.map (some g)) (penc k) false).run P w = .ok ((mget al k).getD z) w := by
  obtain ⟨es, c, h1, h2⟩ := h
  have hf := run_pkey hp hi hs hk ha h2
  have hl := mgetI_map al k 0
  simp only [Instr.lookup, Sem.run_bind, run_underlying ht, Result.andThen_ok, MapKept.run_getObj_map h1, Sem.run_pure, run_pcheck hp w es.isEmpty k, hf]
  cases hi' : mgetI al k 0 with
  | none =>
    rw [hi'] at hl
    simp only [Option.map_none] at hl
    rw [← hl]
    simp [hz, Result.andThen]
  | some p =>
    obtain ⟨i, v⟩ := p
    rw [hi'] at hl
    simp only [Option.map_some] at hl
    rw [← hl]
    simp [Result.andThen]
theorem PMp.run_lookup_ok (h : PMp w g al) {t v : TypeId} (ht : P.underlying t = some (.map kt v)) (hp : P.underlying kt = some (.pointer e)) (hi : P.info? e = some i) (hs : i.size ≠ 0) {z : Value} (hz : ∀ w, (zeroValue v).run P w = .ok z w) {k : Option Nat} (hk : pok w k) (ha : ∀ p ∈ al, pok w p.1) :
    (Instr.lookup t (.map (some g)) (penc k) true).run P w = .ok (.tuple #[(mget al k).getD z, .bool (mget al k).isSome]) w := by
  obtain ⟨es, c, h1, h2⟩ := h
  have hf := run_pkey hp hi hs hk ha h2
  have hl := mgetI_map al k 0
  simp only [Instr.lookup, Sem.run_bind, run_underlying ht, Result.andThen_ok, MapKept.run_getObj_map h1, Sem.run_pure, run_pcheck hp w es.isEmpty k, hf]
  cases hi' : mgetI al k 0 with
  | none =>
    rw [hi'] at hl
    simp only [Option.map_none] at hl
    rw [← hl]
    simp [hz, Result.andThen]
  | some p =>
    obtain ⟨i, v⟩ := p
    rw [hi'] at hl
    simp only [Option.map_some] at hl
    rw [← hl]
    simp [Result.andThen]
theorem PMp.run_update (h : PMp w g al) {t v : TypeId} (ht : P.underlying t = some (.map kt v)) (hp : P.underlying kt = some (.pointer e)) (hi : P.info? e = some i) (hs : i.size ≠ 0) {k : Option Nat} (hk : pok w k) (ha : ∀ p ∈ al, pok w p.1) (u : Value) :
    ∃ w', (Instr.mapUpdate t (.map (some g)) (penc k) u).run P w = .ok () w' ∧ PMp w' g (mput al k u) ∧ Keep (fun i => i = g) w w' := by
  obtain ⟨es, c, h1, h2⟩ := h
  have hf := run_pkey hp hi hs hk ha h2
  have hkeep : ∀ o, Keep (fun i => i = g) w { w with heap := w.heap.setIfInBounds g o } := fun o =>
    ⟨rfl, rfl, rfl, by simp, fun i hi hn => by simp [Array.getElem?_setIfInBounds, Ne.symm hn]⟩
  have hg : g < w.heap.size := (Array.getElem?_eq_some_iff.1 h1).1
  cases hi' : mgetI al k 0 with
  | none =>
    rw [hi'] at hf
    refine ⟨{ w with heap := w.heap.setIfInBounds g (.map (es.push { key := penc k, val := u, born := c }) (c + 1)) }, ?_, ⟨_, _, by simp only [Array.getElem?_setIfInBounds, if_true, hg]; rfl, ?_⟩, hkeep _⟩
    · simp [Instr.mapUpdate, run_underlying ht, MapKept.run_getObj_map h1, run_pcheck hp w false k, hf, MapKept.run_setObj_map _ h1, Result.andThen]
    · rw [mgetI_none hi' u]
      simp [h2]
  | some p =>
    obtain ⟨j, x⟩ := p
    rw [hi'] at hf
    obtain ⟨n, e1, e2, e3⟩ := mgetI_some hi'
    simp at e1
    subst e1
    have hlen : es.size = al.length := by simpa using congrArg List.length h2
    have hil : j < es.size := by rw [hlen]; exact (List.getElem?_eq_some_iff.1 e2).1
    have hk' : es[j].key = penc k := by
      have := congrArg (fun l => l[j]?) h2
      simp [e2, hil] at this
      exact this.1
    refine ⟨{ w with heap := w.heap.setIfInBounds g (.map (es.modify j fun e => { e with key := penc k, val := u }) c) }, ?_, ⟨_, _, by simp only [Array.getElem?_setIfInBounds, if_true, hg]; rfl, ?_⟩, hkeep _⟩
    · simp [Instr.mapUpdate, run_underlying ht, MapKept.run_getObj_map h1, run_pcheck hp w false k, hf, hil, hk', run_pstays w k, MapKept.run_setObj_map _ h1, Result.andThen]
    · rw [e3 u]
      apply List.ext_getElem?
      intro m
      have hj := congrArg (fun l => l[m]?) h2
      simp only [List.getElem?_map, Array.getElem?_toList] at hj
      simp only [List.getElem?_map, Array.getElem?_toList, Array.getElem?_modify, List.getElem?_set]
      by_cases hij : j = m
      · subst hij
        simp [hil, hlen ▸ hil]
      · simp [hij, hj]
/-- A map as a part. -/
def pmapP (g : Nat) (al : List (Option Nat × Value)) : Pr :=
  ⟨fun w o => o g ∧ PMp w g al, fun h k hn => ⟨h.1, h.2.same (k.block _ h.2.lt (fun x => hn _ h.1 x))⟩, fun h hs => ⟨hs _ h.1, h.2⟩, fun h => ⟨⟨h.1, h.2.lt⟩, h.2⟩⟩
variable {W : World} {oo : Nat → Prop} {l : List Pr}
theorem SepO.pmp (h : SepO W oo w l) (k : Nat) (hk : l[k]? = some (pmapP g al)) : PMp w g al := by obtain ⟨o, h1, _⟩ := h.get k hk; exact h1.2
theorem SepO.new_pmap (h : SepO W oo w l) : SepO W oo (w.alloc (.map #[] 0)) (l ++ [pmapP w.heap.size []]) := h.add (P := pmapP w.heap.size []) ((Keep.refl _ _).alloc _) ⟨Nat.le_refl _, PMp.made w⟩
theorem SepO.pupdate (h : SepO W oo w l) (j : Nat) (hj : l[j]? = some (pmapP g al)) {t v : TypeId} (ht : P.underlying t = some (.map kt v)) (hp : P.underlying kt = some (.pointer e)) (hi : P.info? e = some i) (hs : i.size ≠ 0) {k : Option Nat} (hk : pok w k) (ha : ∀ p ∈ al, pok w p.1) (u : Value) :
    ∃ w', (Instr.mapUpdate t (.map (some g)) (penc k) u).run P w = .ok () w' ∧ SepO W oo w' (l.set j (pmapP g (mput al k u))) := by
  obtain ⟨o, ⟨h1, h2⟩, _, hup⟩ := h.open0 j hj
  obtain ⟨w', hr, hm, hkk⟩ := h2.run_update ht hp hi hs hk ha u
  exact ⟨w', hr, hup w' (pmapP g _) ⟨h1, hm⟩ (hkk.mono (fun i hi => .inl (hi ▸ h1)))⟩
/-- 'm[k] = v' as one step of a walk. -/
theorem wpList_pupdate_sep {ops : Array Oper} {rest : List Oper} {o : Oper} {a : Act} {Q : Exit → Act → World → Prop} (hgd : o.guard = none) (m x v : Operand) (t : TypeId) (hop : o.op = Op.mapUpdate t m x v)
    {ve : TypeId} (ht : P.underlying t = some (.map kt ve)) (hp : P.underlying kt = some (.pointer e)) (hi : P.info? e = some i) (hs : i.size ≠ 0) (h : SepO W oo w l) (k : Nat) (hk : l[k]? = some (pmapP g al)) (key : Option Nat) (val : Value) (hkey : pok w key) (ha : ∀ p ∈ al, pok w p.1)
    (hm : a.eval m = .map (some g)) (hx : a.eval x = penc key) (hv : a.eval v = val)
    (hw : ∀ w', SepO W oo w' (l.set k (pmapP g (mput al key val))) → wpList P ops Q rest (a.put o.dst undef) w') : wpList P ops Q (o :: rest) a w := by
  refine wpList_plain hgd fun K' hK' => ?_
  obtain ⟨w', hr, h'⟩ := h.pupdate k hk ht hp hi hs hkey ha val
  unfold Oper.wp
  simp [execOp, hop, hm, hx, hv, hr, Result.andThen]
  exact hK' _ _ (hw w' h')
end
end Go.Proofs.Ytoldhaomacnigaa.W
