/- A row of elements of several cells, of the call's own, as a part of memory. No condition. -/
import Derived.Test.YtjgjablmkljfoaaSep
import Derived.Laws.OwnMore
set_option linter.unusedVariables false
set_option linter.unusedSimpArgs false
namespace Go.Proofs.Ytjgjablmkljfoaa.W
open Go.RowKit
section
variable {w w' : World} {e : TypeId} {s : Nat} {v : Value} {n : Nat} {xs : List Value}
theorem own_same (h : w.ownsRow 0 e s v n xs) (hb : ∀ g, v.ownBlock = some g → w'.heap[g]? = w.heap[g]?) : w'.ownsRow 0 e s v n xs := by
  refine ⟨h.1, ?_⟩
  rcases h.2 with h | ⟨g, cap, cur, hv, hbg, hg, r⟩
  · exact .inl h
  · exact .inr ⟨g, cap, cur, hv, hbg, (hb g (by rw [hv]; rfl)).trans hg, r⟩
/-- A row whose elements have s cells each. -/
def rowK (e : TypeId) (s : Nat) (v : Value) (n : Nat) (xs : List Value) : Pr :=
  ⟨fun w o => w.ownsRow 0 e s v n xs ∧ ∀ g, v.ownBlock = some g → o g,
   fun h k hn => ⟨own_same h.1 (fun g hg => k.block g (h.1.lt g hg).2 (fun x => hn g (h.2 g hg) x)), h.2⟩,
   fun h hs => ⟨h.1, fun g hg => hs g (h.2 g hg)⟩,
   fun h => ⟨h.1, fun g hg => ⟨h.2 g hg, (h.1.lt g hg).2⟩⟩⟩
theorem own_form (h : w.ownsRow 0 e s v n xs) : ∃ A c, v = .slice A n c ∧ n ≤ c ∧ c ≤ 9223372036854775807 ∧ (0 < n → ∃ g, A = some ⟨g, 0, none⟩) := by
  rcases h.2 with ⟨rfl, rfl⟩ | ⟨g, cap, cur, rfl, _, _, h1, h2, _⟩
  · exact ⟨none, 0, rfl, by omega, by omega, by omega⟩
  · unfold maxLen at h2; exact ⟨_, _, rfl, h1, by omega, fun _ => ⟨g, rfl⟩⟩
end
section
variable {W w : World} {oo : Nat → Prop} {l : List Pr} {e : TypeId} {s : Nat} {v : Value} {n : Nat} {xs : List Value}
/-- The last parts, some of them, in another order. -/
theorem SepO.tail_pick {m : List Pr} (h : SepO W oo w (l ++ m)) (σ : List Nat) (hd : σ.Nodup) : SepO W oo w (l ++ σ.map fun k => m[k]?.getD emp) := by
  obtain ⟨own, hkp, hs⟩ := h
  refine ⟨fun i => if own i < l.length then own i else l.length + σ.idxOf (own i - l.length), hkp, fun j Q hj => ?_⟩
  rcases Nat.lt_or_ge j l.length with hlt | hge
  · rw [List.getElem?_append_left hlt] at hj
    exact Q.mono (hs j Q (by rw [List.getElem?_append_left hlt]; exact hj)) (fun i hi => ⟨hi.1, by simp only []; rw [hi.2, if_pos hlt]⟩)
  · rw [List.getElem?_append_right hge, List.getElem?_map] at hj
    rcases Nat.lt_or_ge (j - l.length) σ.length with h2 | h2
    · rw [List.getElem?_eq_getElem h2] at hj
      simp only [Option.map_some, Option.some.injEq] at hj
      cases hm : m[σ[j - l.length]]? with
      | none =>
        rw [hm] at hj
        subst hj
        trivial
      | some P =>
        rw [hm] at hj
        simp only [Option.getD_some] at hj
        subst hj
        refine P.mono (hs (l.length + σ[j - l.length]) P (by rw [List.getElem?_append_right (by omega), Nat.add_sub_cancel_left]; exact hm)) (fun i hi => ⟨hi.1, ?_⟩)
        simp only []
        rw [hi.2, if_neg (by omega), Nat.add_sub_cancel_left, hd.idxOf_getElem _ h2]
        omega
    · rw [List.getElem?_eq_none h2] at hj
      cases hj
theorem SepO.nil_rowK (h : SepO W oo w l) (e : TypeId) (s : Nat) : SepO W oo w (l ++ [rowK e s (.slice none 0 0) 0 []]) := h.add (P := rowK e s _ 0 []) (Keep.refl _ _) ⟨World.ownsRow_nil w 0 e s, fun g hg => by cases hg⟩
theorem SepO.new_rowK (h : SepO W oo w l) (e : TypeId) (s : Nat) (cs : Array Value) (n : Nat) (hn : n ≤ maxLen) (hs : cs.size = n * s) : SepO W oo (w.alloc (.cells cs e)) (l ++ [rowK e s (.slice (some ⟨w.heap.size, 0, none⟩) n n) n cs.toList]) :=
  h.add (P := rowK e s _ n cs.toList) ((Keep.refl _ _).alloc _) ⟨World.ownsRow_lit w cs n (Nat.zero_le _) hn hs, fun g hg => by
    simp [Value.ownBlock] at hg
    omega⟩
theorem SepO.rowk (h : SepO W oo w l) (k : Nat) (hk : l[k]? = some (rowK e s v n xs)) : ∃ A c, v = .slice A n c ∧ n ≤ c ∧ c ≤ 9223372036854775807 ∧ xs.length = n * s ∧ (0 < n → ∃ g, A = some ⟨g, 0, none⟩ ∧ ((oo g ∨ W.heap.size ≤ g) ∧ g < w.heap.size) ∧ (∀ j, j < n * s → w.cell? ⟨g, j, none⟩ = xs[j]?) ∧ ∀ j, w.frozen? ⟨g, j, none⟩ = false) := by
  obtain ⟨o, ⟨h1, h2⟩, h3⟩ := h.get k hk
  obtain ⟨A, c, rfl, hc, hc2, hA⟩ := own_form h1
  refine ⟨A, c, rfl, hc, hc2, h1.1, fun h0 => ?_⟩
  obtain ⟨g, rfl⟩ := hA h0
  exact ⟨g, rfl, h3 g (h2 g rfl), fun j hj => h1.cellAt j hj, fun j => h1.frozenAt j⟩
/-- 'x = append(x, u)' of such a row: as one step of a walk. -/
theorem wpList_append_rowK {P : Program} {ops : Array Oper} {rest : List Oper} {o : Oper} {a : Act} {Q : Exit → Act → World → Prop} (hgd : o.guard = none) (sl x : Operand) (t : TypeId)
    (ho : o.op = .call { callee := .builtin .append, args := #[sl, x], argTypes := #[t, t] })
    (e : TypeId) (i : TypeInfo) (z : Value) (size bytes : Nat) (ht : P.underlying t = some (.slice e)) (hi : P.info? e = some i) (hz : i.zero = some z) (hs : i.size = size) (hby : i.bytes = bytes) (hzs : z.cells.size = size) (hsz : 0 < size)
    (v : Value) (n : Nat) (xs : List Value) (hsv : a.eval sl = v) (h : SepO W oo w l) (k : Nat) (hk : l[k]? = some (rowK e size v n xs)) (ad : Addr) (news : List Value) (hxv : a.eval x = .slice (some ad) 1 1)
    (hl : news.length = size) (hnews : ∀ j u, news[j]? = some u → w.cell? (ad.add j) = some u) (h1 : ∀ u ∈ news, u.oneCell' = true)
    (h63 : n + 1 ≤ 9223372036854775807) (hbytes : (n + 1) * bytes ≤ 140737488355328)
    (hw : ∀ A' c' w', SepO W oo w' (l.set k (rowK e size (.slice A' (n + 1) c') (n + 1) (xs ++ news))) → wpList P ops Q rest (a.put o.dst (.slice A' (n + 1) c')) w') : wpList P ops Q (o :: rest) a w := by
  obtain ⟨ok, ⟨hq, hq2⟩, _, hup⟩ := h.open_ k hk
  refine wpList_append_own_at w hgd sl x t ho 0 e i z size bytes ht hi hz hs hby hzs hsz v n xs hsv hq ad 1 1 news hxv (by simpa using hl) hnews h1 (by unfold maxLen; omega) hbytes (Nat.zero_le _) ?_
  intro v' w' hown hgr _ hblk
  obtain ⟨A', c', rfl, _, _, _⟩ := own_form hown
  refine hw A' c' w' (hup w' (rowK e size _ (n + 1) (xs ++ news)) ⟨hown, fun g hg => ?_⟩ ⟨hgr.os, hgr.tape, hgr.output, hgr.size, fun j hj hn => hgr.block j hj (fun hx => hn (hq2 j hx.symm))⟩)
  rcases hblk with hb | hb
  · exact .inl (hq2 g (hb ▸ hg))
  · rw [hb] at hg
    cases hg
    exact .inr (Nat.le_refl _)
theorem step_append_rowK {P : Program} {ops : Array Oper} {o : Oper} {a : Act} {K : Act → World → Prop} {Q : Exit → Act → World → Prop} {E : Prop} (hgd : o.guard = none) (sl x : Operand) (t : TypeId)
    (ho : o.op = .call { callee := .builtin .append, args := #[sl, x], argTypes := #[t, t] })
    (e : TypeId) (i : TypeInfo) (z : Value) (size bytes : Nat) (ht : P.underlying t = some (.slice e)) (hi : P.info? e = some i) (hz : i.zero = some z) (hs : i.size = size) (hby : i.bytes = bytes) (hzs : z.cells.size = size) (hsz : 0 < size)
    (v : Value) (n : Nat) (xs : List Value) (hsv : a.eval sl = v) (h : SepO W oo w l) (k : Nat) (hk : l[k]? = some (rowK e size v n xs)) (ad : Addr) (news : List Value) (hxv : a.eval x = .slice (some ad) 1 1)
    (hl : news.length = size) (hnews : ∀ j u, news[j]? = some u → w.cell? (ad.add j) = some u) (h1 : ∀ u ∈ news, u.oneCell' = true)
    (h63 : n + 1 ≤ 9223372036854775807) (hbytes : (n + 1) * bytes ≤ 140737488355328)
    (hw : ∀ A' c' w', SepO W oo w' (l.set k (rowK e size (.slice A' (n + 1) c') (n + 1) (xs ++ news))) → K (a.put o.dst (.slice A' (n + 1) c')) w') :
    if Region.wanted o (yielded ops a.tmps) = true then Oper.wp P o a w K Q else E := by
  rw [if_pos (by simp [Region.wanted, hgd])]
  obtain ⟨ok, ⟨hq, hq2⟩, _, hup⟩ := h.open_ k hk
  obtain ⟨v', w', hr, hown, hgr, _, hblk⟩ := run_append_own_at (P := P) w 0 t o.type e i z size bytes ht hi hz hs hby hzs hsz v n xs hq ad 1 1 news (by simpa using hl) hnews h1 (by unfold maxLen; omega) hbytes (Nat.zero_le _)
  obtain ⟨A', c', rfl, _, _, _⟩ := own_form hown
  unfold Oper.wp execOp
  simp only [ho, resolve, invoke, builtin, Sem.run_bind, Sem.run_pure, Result.andThen_ok, List.map_toArray, List.map_cons, List.map_nil, hsv, hxv, hr]
  refine hw A' c' w' (hup w' (rowK e size _ (n + 1) (xs ++ news)) ⟨hown, fun g hg => ?_⟩ ⟨hgr.os, hgr.tape, hgr.output, hgr.size, fun j hj hn => hgr.block j hj (fun hx => hn (hq2 j hx.symm))⟩)
  rcases hblk with hb | hb
  · exact .inl (hq2 g (hb ▸ hg))
  · rw [hb] at hg
    cases hg
    exact .inr (Nat.le_refl _)
/-- A part of many parts is two. -/
theorem SepO.split_mid {A B : List Pr} (h : SepO W oo w l) (k : Nat) (hk : l[k]? = some (sepP (A ++ B))) : SepO W oo w (l.set k (sepP A) ++ B) := by
  obtain ⟨own, hkp, hs⟩ := h
  obtain ⟨own2, hs2⟩ := hs k _ hk
  have hkl := (List.getElem?_eq_some_iff.1 hk).1
  refine ⟨fun i => if own i = k then (if own2 i < A.length then k else if own2 i < A.length + B.length then l.length + (own2 i - A.length) else l.length + B.length) else if own i < l.length then own i else l.length + B.length, hkp, fun j R hj => ?_⟩
  rcases Nat.lt_or_ge j l.length with hlt | hge
  · rw [List.getElem?_append_left (by simpa using hlt), List.getElem?_set] at hj
    by_cases hjk : k = j
    · subst hjk
      rw [if_pos rfl, if_pos hkl] at hj
      injection hj with hj
      subst hj
      refine ⟨own2, fun m P hP => P.mono (hs2 m P (by rw [List.getElem?_append_left (List.getElem?_eq_some_iff.1 hP).1]; exact hP)) (fun i hi => ?_)⟩
      have hml := (List.getElem?_eq_some_iff.1 hP).1
      exact ⟨⟨⟨hi.1.1.1, by simp only []; rw [if_pos hi.1.1.2, if_pos (by have := hi.2; omega)]⟩, hi.1.2⟩, hi.2⟩
    · rw [if_neg hjk] at hj
      exact R.mono (hs j R hj) (fun i hi => ⟨hi.1, by simp only []; rw [if_neg (by have := hi.2; omega), if_pos (by have := hi.2; omega)]; exact hi.2⟩)
  · rw [List.getElem?_append_right (by simpa using hge), List.length_set] at hj
    have hjb := (List.getElem?_eq_some_iff.1 hj).1
    refine R.mono (hs2 (A.length + (j - l.length)) R (by rw [List.getElem?_append_right (by omega), Nat.add_sub_cancel_left]; exact hj)) (fun i hi => ⟨hi.1.1.1, ?_⟩)
    simp only []
    rw [if_pos hi.1.1.2, if_neg (by have := hi.2; omega), if_pos (by have := hi.2; omega)]
    have := hi.2
    omega
/-- The capacity of a row is cut to its length. -/
theorem SepO.row_clip {A : Option Addr} {c : Nat} (h : SepO W oo w l) (k : Nat) (hk : l[k]? = some (rowP e A n c xs)) : SepO W oo w (l.set k (rowP e A n n xs)) := by
  obtain ⟨o, ⟨h1, h2, h3, h4⟩, _, hup⟩ := h.open_ k hk
  refine hup w (rowP e A n n xs) ⟨h1, Nat.le_refl _, by omega, ?_⟩ (Keep.refl _ _)
  rcases h4 with ⟨rfl, rfl⟩ | ⟨g, off, cur, hA, hg, hb, hs, ht⟩
  · exact .inl ⟨rfl, by omega⟩
  · exact .inr ⟨g, off, cur, hA, .inl hg, hb, by omega, ht⟩
theorem qr_of_own {base : Nat} {ok : Nat → Prop} {A : Option Addr} {c : Nat} (h : w.ownsRow base e 1 (.slice A n c) n xs) (hok : ∀ i, base ≤ i → ok i) : QR w ok e A n c xs := by
  have hx := h.1
  rcases h.2 with ⟨h', h0⟩ | ⟨g', cap', cur, h', hb, hg, hn, hm, hcs, htake⟩
  · simp only [Value.slice.injEq] at h'
    obtain ⟨rfl, _, rfl⟩ := h'
    exact ⟨by omega, by omega, by omega, .inl ⟨rfl, rfl⟩⟩
  · simp only [Value.slice.injEq, true_and] at h'
    obtain ⟨rfl, rfl⟩ := h'
    unfold maxLen at hm
    exact ⟨by omega, hn, by omega, .inr ⟨g', 0, cur, rfl, hok _ hb, hg, by omega, by rw [List.drop_zero]; simpa using htake⟩⟩
theorem SepO.new_row_cap (h : SepO W oo w l) (t : TypeId) (cs : Array Value) (hc : cs.size ≤ 9223372036854775807) : SepO W oo (w.alloc (.cells cs t)) (l ++ [rowP t (some ⟨w.heap.size, 0, none⟩) 0 cs.size []]) :=
  h.add (P := rowP t _ 0 cs.size []) ((Keep.refl _ _).alloc _) ⟨rfl, Nat.zero_le _, hc, .inr ⟨_, 0, cs, rfl, Nat.le_refl _, Blk.new w t cs, by simp, by simp⟩⟩
end
end Go.Proofs.Ytjgjablmkljfoaa.W
