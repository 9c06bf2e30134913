/- Texts of the whole heap, joined: MatH MatI MatJ. No condition beside those that each lemma names. -/
import Derived.Test.YtihmkkjmnbehbaaGreatMg04
/- A page is put whole, with a row of marks of its own. No condition. -/
set_option linter.unusedVariables false
set_option linter.unusedSimpArgs false
namespace Go.Proofs.YtihmkkjmnbehbaaGreat.W
section
variable {W w : World} {oo : Nat → Prop} {l : List Pr} {P : Pr}
/-- The last part takes the place of another one, which is let go. -/
theorem SepO.into (h : SepO W oo w (l ++ [P])) (k : Nat) (hk : k < l.length) : SepO W oo w (l.set k P) := by
  obtain ⟨own, hkp, hs⟩ := h
  refine ⟨fun i => if own i = l.length then k else if own i = k then l.length else own i, hkp, fun j R hj => ?_⟩
  rw [List.getElem?_set] at hj
  split at hj
  · rename_i hkj
    subst hkj
    cases hj
    exact Pr.mono _ (hs l.length P at_last) (fun i hi => ⟨hi.1, by simp only []; rw [if_pos hi.2]⟩)
  · rename_i hkj
    have hjl := (List.getElem?_eq_some_iff.1 hj).1
    refine R.mono (hs j R (at_left hj)) (fun i hi => ⟨hi.1, ?_⟩)
    simp only []
    rw [hi.2, if_neg (by omega), if_neg (fun h => hkj h.symm)]
end
end Go.Proofs.YtihmkkjmnbehbaaGreat.W
namespace Go.Proofs.YtihmkkjmnbehbaaGreat.Ma
open Go.RowKit Go.Proofs.YtihmkkjmnbehbaaGreat.W Go.Proofs.YtihmkkjmnbehbaaGreat.Cl
section
variable {W w : World} {oo : Nat → Prop} {b L : Nat} {f n : Int} {lg : List (Pg × Nat)} {l : List Pr}
abbrev put4 (w : World) (L i : Nat) (q : Pg × Nat) : World :=
  (((w.setCell ⟨L, i * 4, none⟩ (.int .i64 q.1.kind)).setCell ⟨L, i * 4 + 1, none⟩ (.int .i64 q.1.size)).setCell ⟨L, i * 4 + 2, none⟩ (usl q.1 q.2)).setCell ⟨L, i * 4 + 3, none⟩ (.bool q.1.pend)
theorem m_put4 (h : SepO W oo w (mparts b L f n lg ++ l)) {i : Nat} {p : Pg × Nat} (hp : lg[i]? = some p) (q : Pg × Nat) :
    SepO W oo (put4 w L i q) ((blkP b 95 (scells f n L lg.length) :: blkP L 92 (pcs (lg.set i q)).toArray :: lg.map upart) ++ l) := by
  have h1 := (((h.set_blk 1 rfl (i * 4) (.int .i64 q.1.kind)).set_blk 1 rfl (i * 4 + 1) (.int .i64 q.1.size)).set_blk 1 rfl (i * 4 + 2) (usl q.1 q.2)).set_blk 1 rfl (i * 4 + 3) (.bool q.1.pend)
  simp only [List.setIfInBounds_toArray] at h1
  rw [pcs_put hp q] at h1
  exact h1
/-- A page without marks is put. -/
theorem m_put0 (h : SepO W oo w (mparts b L f n lg ++ l)) {i : Nat} {p : Pg × Nat} (hp : lg[i]? = some p) (q : Pg × Nat) (hq : q.1.used = []) : SepO W oo (put4 w L i q) (mparts b L f n (lg.set i q) ++ l) := by
  have h1 := m_put4 h hp q
  have hil := (List.getElem?_eq_some_iff.1 hp).1
  have h2 := h1.forget (i + 2)
  have e : ((blkP b 95 (scells f n L lg.length) :: blkP L 92 (pcs (lg.set i q)).toArray :: lg.map upart) ++ l).set (i + 2) emp = mparts b L f n (lg.set i q) ++ l := by
    rw [List.set_append_left _ _ (by simp; omega)]
    unfold mparts
    simp [List.map_set, upart, hq]
  rw [e] at h2
  exact h2
/-- A page is put with the marks that the last part holds. -/
theorem m_put1 {g : Nat} {us : List Bool} (h : SepO W oo w (mparts b L f n lg ++ [blkP g 4 (bools us)])) {i : Nat} {p : Pg × Nat} (hp : lg[i]? = some p) (q : Pg) (hq : q.used = us) (hu : us ≠ []) : SepO W oo (put4 w L i (q, g)) (mparts b L f n (lg.set i (q, g))) := by
  have h1 := m_put4 h hp (q, g)
  have hil := (List.getElem?_eq_some_iff.1 hp).1
  have h2 := h1.into (i + 2) (by simp; omega)
  have e : (blkP b 95 (scells f n L lg.length) :: blkP L 92 (pcs (lg.set i (q, g))).toArray :: lg.map upart).set (i + 2) (blkP g 4 (bools us)) = mparts b L f n (lg.set i (q, g)) := by
    unfold mparts
    simp [List.map_set, upart, hq, hu]
  rw [e] at h2
  exact h2
end
end Go.Proofs.YtihmkkjmnbehbaaGreat.Ma
/- Contracts of package mature: room in a page of cells. No condition. -/
set_option linter.unusedVariables false
set_option linter.unusedSimpArgs false
namespace Go.Proofs.YtihmkkjmnbehbaaGreat.Ma
open Go.RowKit Go.Proofs.YtihmkkjmnbehbaaGreat.W Go.Proofs.YtihmkkjmnbehbaaGreat.Cl

theorem run_make_rowN {P : Program} (t e : TypeId) (i : TypeInfo) (z : Value) (ht : P.underlying t = some (.slice e)) (hi : P.info? e = some i) (hz : i.zero = some z)
    (kl kc : IntKind) (n c : Nat) (hnc : n ≤ c) (hbytes : i.bytes * c ≤ 281474976710656) (h63 : c ≤ 9223372036854775807) (w : World) :
    (Instr.makeSlice t (.int kl (n : Int)) (.int kc (c : Int))).run P w = .ok (.slice (some ⟨w.heap.size, 0, none⟩) n c) (w.alloc (.cells (madeCells z.cells (c * i.size)) e)) := by
  have hb : (i.bytes : Int) * (c : Int) ≤ 281474976710656 := by
    have h : ((i.bytes * c : Nat) : Int) ≤ 281474976710656 := by omega
    rwa [Int.natCast_mul] at h
  have hr := run_make (P := P) w t e i z ht hi hz kl kc n c (by omega) (by omega) hb (by omega)
  simp only [Int.toNat_natCast] at hr
  exact hr

/-- The first page of cells of a size that is not to be swept and has a free cell. -/
def fb (size : Int) : List Pg → Nat → Option (Nat × Nat)
  | [], _ => none
  | p :: r, i => if p.kind = 1 ∧ p.size = size ∧ p.pend = false then (match fz p.used with | some k => some (i, k) | none => fb size r (i + 1)) else fb size r (i + 1)
theorem fb_drop {size : Int} {V : List Pg} {j : Nat} {p : Pg} (h : V[j]? = some p) : fb size (V.drop j) j = if p.kind = 1 ∧ p.size = size ∧ p.pend = false then (match fz p.used with | some k => some (j, k) | none => fb size (V.drop (j + 1)) (j + 1)) else fb size (V.drop (j + 1)) (j + 1) := by
  have ht := (List.getElem?_eq_some_iff.1 h).1
  rw [List.drop_eq_getElem_cons ht]
  have : V[j] = p := by rw [List.getElem?_eq_getElem ht] at h; simpa using h
  rw [this]
  rfl
/-- A new page of cells, of which the first one is used. -/
def newB (n size : Int) : Pg := ⟨1, size, (List.replicate (n / size).toNat false).set 0 true, false⟩
/-- What inBlock answers, and the pages behind it. -/
def ibR (f n size : Int) (l : List Pg) : Option Int × List Pg := match fb size l 0 with
  | some (i, k) => (some (f + i * n + k * size), match l[i]? with | some p => l.set i ⟨p.kind, p.size, p.used.set k true, p.pend⟩ | none => l)
  | none => match rowGo 1 l 0 0 with
    | some q => (some (f + q * n), l.set q.toNat (newB n size))
    | none => (none, l)
def oI : Option Int → Int | some x => x | none => 0
theorem row1 {l : List Pg} {i : Int} : rowGo 1 l i 0 = none ∨ ∃ (k : Nat) (p : Pg), rowGo 1 l i 0 = some (i + k) ∧ l[k]? = some p ∧ p.kind = 0 := by
  induction l generalizing i with
  | nil => exact .inl rfl
  | cons p r ih =>
    by_cases hk : p.kind = 0
    · exact .inr ⟨0, p, by simp [rowGo, hk], rfl, hk⟩
    · rcases ih (i := i + 1) with h | ⟨k, q, h1, h2, h3⟩
      · exact .inl (by simp only [rowGo, if_pos hk, h])
      · exact .inr ⟨k + 1, q, by simp only [rowGo, if_pos hk, h1]; congr 1; omega, by simpa using h2, h3⟩
theorem ibR_some {f n size : Int} {l : List Pg} {i k : Nat} {p : Pg} (h : fb size l 0 = some (i, k)) (hp : l[i]? = some p) : ibR f n size l = (some (f + i * n + k * size), l.set i ⟨p.kind, p.size, p.used.set k true, p.pend⟩) := by
  unfold ibR; rw [h]; simp only [hp]
theorem ibR_none {f n size : Int} {l : List Pg} (h : fb size l 0 = none) (h1 : rowGo 1 l 0 0 = none) : ibR f n size l = (none, l) := by
  unfold ibR; rw [h, h1]
theorem ibR_new {f n size : Int} {l : List Pg} {q : Int} (h : fb size l 0 = none) (h1 : rowGo 1 l 0 0 = some q) : ibR f n size l = (some (f + q * n), l.set q.toNat (newB n size)) := by
  unfold ibR; rw [h, h1]
section
variable {W w : World} {oo : Nat → Prop} {b L : Nat} {f n : Int} {lg : List (Pg × Nat)} {l : List Pr}
theorem MW.set (m : MW f n lg) {i : Nat} {p : Pg × Nat} (hp : lg[i]? = some p) (q : Pg × Nat) (hq : q.1.ok n) (hb : q.1.kind = 2 → (i : Int) + pgs n q.1.size ≤ lg.length) : MW f n (lg.set i q) := by
  refine ⟨m.f0, m.f1, m.n0, m.n1, by rw [List.length_set]; exact m.len, fun x hx => ?_, fun j x hj hk => ?_⟩
  · rcases List.mem_or_eq_of_mem_set hx with h | h
    · exact m.page x h
    · rw [h]; exact hq
  · rw [List.length_set]
    rw [List.getElem?_set] at hj
    split at hj
    · rename_i hij
      subst hij
      split at hj
      · cases hj; exact hb hk
      · cases hj
    · exact m.big j x hj hk
theorem MW.mark (m : MW f n lg) {i : Nat} {p : Pg × Nat} (hp : lg[i]? = some p) (k : Nat) (x : Bool) : MW f n (lg.set i (mark p k x)) := by
  refine m.set hp _ ?_ (fun h => m.big i p hp h)
  rcases m.page p (List.mem_of_getElem? hp) with ⟨h1, h2, h3, h4⟩ | ⟨h1, h2, h3⟩
  · exact .inl ⟨h1, h2, h3, by show ((p.1.used.set k x).length : Int) = _; rw [List.length_set]; exact h4⟩
  · exact .inr ⟨h1, by show p.1.used.set k x = []; rw [h2]; rfl, h3⟩
abbrev newPg (size : Int) (D : Nat) : Pg := ⟨1, size, List.replicate D false, false⟩
theorem m_new (h : SepO W oo w (mparts b L f n lg)) {i : Nat} {p : Pg × Nat} (hp : lg[i]? = some p) (size : Int) {D : Nat} (hD : 1 ≤ D) :
    SepO W oo ((((((w.setCell ⟨L, i * 4, none⟩ (.int .i64 1)).setCell ⟨L, i * 4 + 1, none⟩ (.int .i64 size)).setCell ⟨L, i * 4 + 2, none⟩ (.slice (some ⟨w.heap.size, 0, none⟩) D D)).setCell ⟨L, i * 4 + 3, none⟩ (.bool false)).alloc (.cells (bools (List.replicate D false)) 4)).drew) (mparts b L f n (lg.set i (newPg size D, w.heap.size))) := by
  have h1 := m_put4 (l := []) (by rw [List.append_nil]; exact h) hp (newPg size D, w.heap.size)
  rw [List.append_nil] at h1
  have hil := (List.getElem?_eq_some_iff.1 hp).1
  have hne : (List.replicate D false).isEmpty = false := by cases D with | zero => omega | succ k => rfl
  have h2 := h1.new_blk 4 (bools (List.replicate D false))
  have hz : (put4 w L i (newPg size D, w.heap.size)).heap.size = w.heap.size := by simp [World.setCell]
  rw [hz] at h2
  have h3 := (h2.into (i + 2) (by simp; omega)).drew
  have e : (blkP b 95 (scells f n L lg.length) :: blkP L 92 (pcs (lg.set i (newPg size D, w.heap.size))).toArray :: lg.map upart).set (i + 2) (blkP w.heap.size 4 (bools (List.replicate D false))) = mparts b L f n (lg.set i (newPg size D, w.heap.size)) := by
    unfold mparts
    simp [List.map_set, upart, hne]
  rw [e] at h3
  have hu : usl (newPg size D) w.heap.size = .slice (some ⟨w.heap.size, 0, none⟩) D D := by unfold usl; rw [if_neg (by simpa using hne)]; simp
  simp only [put4, hu] at h3
  exact h3
set_option maxRecDepth 20000 in
set_option maxHeartbeats 4000000 in
theorem inBlock_in (size : Int) (hs : 1 ≤ size ∧ size ≤ n) (h : SepO W oo w (mparts b L f n lg)) (m : MW f n lg) :
    Calls Tryz.prog 168 #[pt b, .int .i64 size] w fun e w' => e = .returned (.tuple #[.int .i64 (oI (ibR f n size (lg.map (·.1))).1), .bool (ibR f n size (lg.map (·.1))).1.isSome]) ∧ ∃ lg', SepO W oo w' (mparts b L f n lg') ∧ lg'.map (·.1) = (ibR f n size (lg.map (·.1))).2 := by
  obtain ⟨hs0, hs1⟩ := hs
  have c2 := (m_blk h).cell 2
  simp at c2
  have hl := m.len
  have n0 := m.n0
  have n1 := m.n1
  obtain ⟨T, hT⟩ : ∃ T, fb size (lg.map (·.1)) 0 = T := ⟨_, rfl⟩
  obtain ⟨⟨R1, R2⟩, hR⟩ : ∃ R, ibR f n size (lg.map (·.1)) = R := ⟨_, rfl⟩
  rw [hR]
  simp only []
  have HT := Lib.hid hT
  have HR := Lib.hid hR
  have M := Lib.hid m
  have H := Lib.hid h
  clear m hT hR
  go_enter Tryz.func168, Tryz.ntmps168
  go_wp2_with fail
  go_loopg [16] lg.length (fun gk z wr => ∃ (j : Nat), j + gk = lg.length ∧ z = .int .i64 j ∧ fb size ((lg.map (·.1)).drop j) j = T ∧ SepO W oo wr (mparts b L f n lg))
  case atStart => exact ⟨0, by omega, rfl, HT.out, h⟩
  case round =>
    clear h c2 H
    obtain ⟨j, hj, rfl, hv, h⟩ := hrel
    have HJ := Lib.hid hj
    have HV := Lib.hid hv
    have hjl : j ≤ lg.length := by omega
    clear hj hv
    have c2 := (m_blk h).cell 2
    simp at c2
    by_cases hlt : j < lg.length
    · obtain ⟨p, hp⟩ : ∃ p, lg[j]? = some p := ⟨lg[j], List.getElem?_eq_getElem hlt⟩
      have hpp : (lg.map (·.1))[j]? = some p.1 := by rw [List.getElem?_map, hp]; rfl
      have hv := HV.out
      rw [fb_drop hpp] at hv
      obtain ⟨p0, p1, _, p3⟩ := m_page h hp
      have HP := Lib.hid hp
      have HPP := Lib.hid hpp
      have HH := Lib.hid h
      clear h hp hpp HV
      rcases (by cases p.1.pend <;> simp <;> omega : ¬ p.1.kind = 1 ∨ (p.1.kind = 1 ∧ ¬ p.1.size = size) ∨ (p.1.kind = 1 ∧ p.1.size = size ∧ p.1.pend = true) ∨ (p.1.kind = 1 ∧ p.1.size = size ∧ p.1.pend = false)) with e1 | ⟨e1, e2⟩ | ⟨e1, e2, e3⟩ | ⟨e1, e2, e3⟩
      · rw [if_neg (fun h => e1 h.1)] at hv
        have g1 : (p.1.kind != 1) = true := by simpa using e1
        have HV := Lib.hid hv
        clear hv e1
        go_wp2_with fail
        go_roundg (gk - 1)
        case measure => have := HJ.out; omega
        case rel => exact ⟨j + 1, by have := HJ.out; omega, by go_num, HV.out, HH.out⟩
      · rw [if_neg (fun h => e2 h.2.1)] at hv
        rw [e1] at p0
        have g2 : (p.1.size != size) = true := by simpa using e2
        have HV := Lib.hid hv
        clear hv e1 e2
        go_wp2_with fail
        go_roundg (gk - 1)
        case measure => have := HJ.out; omega
        case rel => exact ⟨j + 1, by have := HJ.out; omega, by go_num, HV.out, HH.out⟩
      · rw [if_neg (fun h => by rw [e3] at h; exact absurd h.2.2 (by simp))] at hv
        rw [e1] at p0
        rw [e2] at p1
        rw [e3] at p3
        have g2 : (size != size) = false := by simp
        have HV := Lib.hid hv
        clear hv e1 e2 e3
        go_wp2_with fail
        go_roundg (gk - 1)
        case measure => have := HJ.out; omega
        case rel => exact ⟨j + 1, by have := HJ.out; omega, by go_num, HV.out, HH.out⟩
      · rw [if_pos ⟨e1, e2, e3⟩] at hv
        rw [e1] at p0
        rw [e2] at p1
        rw [e3] at p3
        have g2 : (size != size) = false := by simp
        have hc := cell_in HH.out M.out HP.out
        cases hf : fz p.1.used with
        | none =>
          rw [hf] at hv hc
          have HV := Lib.hid hv
          have HC := Lib.hid hc
          clear hv hc e1 e2 e3 hf
          go_wp2_with fail
          refine HC.out.mono ?_
          rintro e w2 ⟨rfl, h2⟩
          rw [show optI none = -1 from rfl]
          go_wp2_with fail
          go_roundg (gk - 1)
          case measure => have := HJ.out; omega
          case rel => exact ⟨j + 1, by have := HJ.out; omega, by go_num, HV.out, h2⟩
        | some k =>
          rw [hf] at hv hc
          have hku := fz_lt hf
          have hul := used_le (M.out.page p (List.mem_of_getElem? HP.out)) n1 n0
          obtain ⟨B0, B1⟩ := begin_b M.out (i := j) (by omega)
          have hE : R1 = some (f + j * n + k * size) ∧ R2 = (lg.map (·.1)).set j ⟨p.1.kind, p.1.size, p.1.used.set k true, p.1.pend⟩ := by
            have := HR.out
            rw [ibR_some (by rw [HT.out, ← hv]) HPP.out] at this
            cases this
            exact ⟨rfl, rfl⟩
          have HE := Lib.hid hE
          have k0 : 0 ≤ (k : Int) * size := Int.mul_nonneg (by omega) (by omega)
          have k1 := Int.mul_le_mul_of_nonneg_right (by omega : (k : Int) ≤ 256) (by omega : 0 ≤ size)
          have m2 := M.out.mark HP.out k true
          obtain ⟨B, hB⟩ : ∃ B, f + (j : Int) * n = B := ⟨_, rfl⟩
          rw [hB] at B0 B1
          have HB := Lib.hid hB
          have s1 := IntWalk.i64_in ((k : Int) * size) (by omega)
          have s2 := IntWalk.i64_in (B + (k : Int) * size) (by omega)
          have s3 : decide ((0 : Int) ≤ (k : Int)) = true := by simp
          have HC := Lib.hid hc
          have M2 := Lib.hid m2
          clear hc m2 hB hE hv e1 e2 e3 hf
          go_wp2_with fail
          refine HC.out.mono ?_
          rintro e w2 ⟨rfl, h2⟩
          rw [show optI (some k) = (k : Int) from rfl]
          replace h2 : SepO W oo w2 (mparts b L f n (lg.set j (mark p k true))) := h2
          clear c2 p0 p1 p3
          go_wp2_with fail
          refine (begin_in j h2 M2.out (by omega)).mono ?_
          rintro e w3 ⟨rfl, r, rfl⟩
          rw [HB.out]
          have H2 := Lib.hid (h2.drewN r)
          clear h2
          go_wp2_with fail
          go_ret2
          refine ⟨?_, lg.set j (mark p k true), H2.out, ?_⟩
          · rw [HE.out.1, HB.out]; rfl
          · rw [HE.out.2, List.map_set]; rfl
    · have hTn : fb size (lg.map (·.1)) 0 = none := by
        rw [HT.out, ← HV.out, List.drop_of_length_le (by simpa using Nat.le_of_not_lt hlt)]; rfl
      have hr := row_in 1 h M.out
      have HH := Lib.hid h
      rcases row1 (l := lg.map (·.1)) (i := 0) with h1 | ⟨q, p', h1, h2, h3⟩
      · rw [h1] at hr
        have hE : R1 = none ∧ R2 = lg.map (·.1) := by
          have := HR.out
          rw [ibR_none hTn h1] at this
          cases this
          exact ⟨rfl, rfl⟩
        have HE := Lib.hid hE
        have HC := Lib.hid hr
        clear hr hE hTn h1 h HV
        go_wp2_with fail
        refine HC.out.mono ?_
        rintro e w2 ⟨rfl, rfl⟩
        go_wp2_with fail
        go_ret2
        exact ⟨by rw [HE.out.1]; rfl, lg, HH.out, HE.out.2.symm⟩
      · rw [Int.zero_add] at h1
        rw [h1] at hr
        replace hr : Calls Tryz.prog 170 #[pt b, .int .i64 1] wr fun e w' => e = .returned (.tuple #[.int .i64 q, .bool true]) ∧ wr = w' := hr
        rw [List.getElem?_map] at h2
        obtain ⟨p, hp, rfl⟩ := Option.map_eq_some_iff.1 h2
        have hql := (List.getElem?_eq_some_iff.1 hp).1
        have hE : R1 = some (f + q * n) ∧ R2 = (lg.map (·.1)).set q (newB n size) := by
          have := HR.out
          rw [ibR_new hTn h1] at this
          cases this
          exact ⟨rfl, rfl⟩
        have d0 := Int.ediv_nonneg (by omega : 0 ≤ n) (by omega : 0 ≤ size)
        have d1 := Int.ediv_le_self size (by omega : 0 ≤ n)
        have d2 := (Int.le_ediv_iff_mul_le (a := 1) (b := n) (by omega : 0 < size)).2 (by omega)
        obtain ⟨D, hD⟩ : ∃ D : Nat, n / size = (D : Int) := ⟨(n / size).toNat, by omega⟩
        rw [hD] at d0 d1 d2
        have hnb : newB n size = ⟨1, size, (List.replicate D false).set 0 true, false⟩ := by unfold newB; rw [hD]; rfl
        rw [hnb] at hE
        obtain ⟨i, hi, hz, hs, hby⟩ := info_parts info_bool
        have hmk : ∀ W : World, (Instr.makeSlice 45 (.int .i64 (D : Int)) (.int .i64 (D : Int))).run Tryz.prog W = .ok (.slice (some ⟨W.heap.size, 0, none⟩) D D) (W.alloc (.cells (bools (List.replicate D false)) 4)) := fun W => by
          have h := run_make_rowN 45 4 i (.bool false) Tryz.underlying45 hi hz .i64 .i64 D D (Nat.le_refl _) (by rw [hby]; omega) (by omega) W
          rw [h, hs]
          have : madeCells (Value.bool false).cells (D * 1) = bools (List.replicate D false) := by
            apply Array.ext
            · simp [madeCells, bools]
            · intro k h1 h2; simp [madeCells, bools, Value.cells, Nat.mod_one]
          rw [this]
        have h9 := m_new h hp size (D := D) (by omega)
        have hcc : ∀ W : World, Calls Tryz.prog 179 #[.int .i64 n, .int .i64 size] W fun e w' => e = .returned (.int .i64 (D : Int)) ∧ W = w' := fun W => by
          have := Cells_calls n size W hs0 n0 (by omega)
          rw [hD] at this
          exact this
        have c1 := (m_blk h).cell 1
        simp at c1
        obtain ⟨p0, p1, p2, p3⟩ := m_page h hp
        have hLl := (h.blk_lt 1 rfl).2
        have hbl := (h.blk_lt 0 rfl).2
        have hbL : ¬ L = b := (m_list h).ne_ (m_blk h) (by decide)
        have hbL' : ¬ b = L := fun e => hbL e.symm
        have z0 := (m_list h).frozen (q * 4)
        have z1 := (m_list h).frozen (q * 4 + 1)
        have z2 := (m_list h).frozen (q * 4 + 2)
        have z3 := (m_list h).frozen (q * 4 + 3)
        have HE := Lib.hid hE
        have HC := Lib.hid hr
        have H9 := Lib.hid h9
        have HCC := Lib.hid hcc
        have HP := Lib.hid hp
        have HDv := Lib.hid hD
        clear hr hE hTn h1 h HV h9 hcc hp h2 h3 hnb hD hi hz hs hby
        go_wp2_with fail
        refine HC.out.mono ?_
        rintro e w2 ⟨rfl, rfl⟩
        go_wp2_with fail
        go_region_held3 (fun w' => w'.cell? ⟨b, 1, none⟩ = some (.int .i64 n) ∧ w'.cell? ⟨b, 2, none⟩ = some (.slice (some ⟨L, 0, none⟩) lg.length lg.length)) (first | exact ⟨c1, c2⟩ | go_keep) ((go_at_call 179; (with_reducible refine (HCC.out _).mono ?_); rintro e w4 ⟨rfl, rfl⟩))
        have h5 := H9.out
        clear H9 p0 p1 p2 p3 z0 z1 z2 z3 hmk HCC c1 c2 hLl hbl hbL hbL'
        generalize ((((((wr.setCell ⟨L, q * 4, none⟩ (.int .i64 1)).setCell ⟨L, q * 4 + 1, none⟩ (.int .i64 size)).setCell ⟨L, q * 4 + 2, none⟩ (.slice (some ⟨wr.heap.size, 0, none⟩) D D)).setCell ⟨L, q * 4 + 3, none⟩ (.bool false)).alloc (.cells (bools (List.replicate D false)) 4)).drew) = w5 at h5 ⊢
        generalize wr.heap.size = G at h5 ⊢
        have hlen : (lg.set q (newPg size D, G)).length = lg.length := List.length_set
        have c2 : w5.cell? ⟨b, 2, none⟩ = some (.slice (some ⟨L, 0, none⟩) lg.length lg.length) := by
          have := (m_blk h5).cell 2
          rw [hlen] at this
          exact this
        have hp5 : (lg.set q (newPg size D, G))[q]? = some (newPg size D, G) := by rw [List.getElem?_set, if_pos rfl, if_pos hql]
        have hne : (newPg size D).used ≠ [] := by intro h; have := congrArg List.length h; simp at this; omega
        have p2 : w5.cell? ⟨L, q * 4 + 2, none⟩ = some (.slice (some ⟨G, 0, none⟩) D D) := by
          have := (m_page h5 hp5).2.2.1
          unfold usl at this
          rw [if_neg (by simpa using hne)] at this
          simpa using this
        have hG := h5.blk (q + 2) (m_used h5 hp5 hne)
        have zG := hG.frozen 0
        have yG : w5.cell? ⟨G, 0, none⟩ = some (.bool false) := by
          rw [hG.cell, bools_get (by simp; omega)]
          rw [List.getElem?_replicate]; split <;> rfl
        have h6 := m_mark h5 hp5 hne 0 true
        rw [List.set_set] at h6
        replace h6 : SepO W oo (w5.setCell ⟨G, 0, none⟩ (.bool true)) (mparts b L f n (lg.set q (⟨1, size, (List.replicate D false).set 0 true, false⟩, G))) := h6
        have M6 : MW f n (lg.set q (⟨1, size, (List.replicate D false).set 0 true, false⟩, G)) := M.out.set HP.out _ (.inl ⟨rfl, hs0, hs1, by simp [HDv.out]⟩) (fun h => absurd h (by simp))
        have H6 := Lib.hid h6
        have M6' := Lib.hid M6
        have hD0 : decide ((0 : Int) < (D : Int)) = true := by simp; omega
        clear h5 h6 M6 hp5 hne hG hlen
        go_wp2_with fail
        refine (begin_in q H6.out M6'.out (by omega)).mono ?_
        rintro e w7 ⟨rfl, r, rfl⟩
        go_wp2_with fail
        go_ret2
        refine ⟨?_, _, H6.out.drewN r, ?_⟩
        · rw [HE.out.1]; rfl
        · rw [HE.out.2, List.map_set]
end
end Go.Proofs.YtihmkkjmnbehbaaGreat.Ma
/- Contracts of package mature: Take. No condition. -/
set_option linter.unusedVariables false
set_option linter.unusedSimpArgs false
namespace Go.Proofs.YtihmkkjmnbehbaaGreat.Ma
open Go.RowKit Go.Proofs.YtihmkkjmnbehbaaGreat.W Go.Proofs.YtihmkkjmnbehbaaGreat.Cl

def more : Pg := ⟨3, 0, [], false⟩
def fillM (q : Nat) : Nat → List Pg → List Pg
  | 0, l => l
  | k + 1, l => (fillM q k l).set (q + k) more
def fillG (q : Nat) : Nat → List (Pg × Nat) → List (Pg × Nat)
  | 0, l => l
  | k + 1, l => (fillG q k l).set (q + k) (more, 0)
theorem fillG_len (q k : Nat) (l : List (Pg × Nat)) : (fillG q k l).length = l.length := by
  induction k with
  | zero => rfl
  | succ k ih => unfold fillG; rw [List.length_set, ih]
theorem fillG_map (q k : Nat) (l : List (Pg × Nat)) : (fillG q k l).map (·.1) = fillM q k (l.map (·.1)) := by
  induction k with
  | zero => rfl
  | succ k ih => unfold fillG fillM; rw [List.map_set, ih]
theorem rowGo_b {c : Int} {l : List Pg} {i r s : Int} (h : rowGo c l i r = some s) (hr : 0 ≤ r) : i - r ≤ s ∧ s + c ≤ i + l.length := by
  induction l generalizing i r with
  | nil => cases h
  | cons p t ih =>
    simp only [rowGo] at h
    rw [List.length_cons]
    split at h
    · have := ih h (by omega); omega
    · split at h
      · cases h; omega
      · have := ih h (by omega); omega
/-- What Take answers, and the pages behind it. -/
def takeR (f n x : Int) (l : List Pg) : Option Int × List Pg :=
  if x < 1 then (none, l) else if big n x then (match rowGo (pgs n x) l 0 0 with | none => (none, l) | some q => (some (f + q * n), (fillM q.toNat (pgs n x).toNat l).set q.toNat ⟨2, x, [], false⟩)) else ibR f n (rnd x) l
section
variable {W w : World} {oo : Nat → Prop} {b L : Nat} {f n : Int} {lg : List (Pg × Nat)} {l : List Pr}
theorem MW.fill (m : MW f n lg) (q k : Nat) (hk : q + k ≤ lg.length) : MW f n (fillG q k lg) := by
  induction k with
  | zero => exact m
  | succ k ih =>
    have m1 := ih (by omega)
    have hlt : q + k < (fillG q k lg).length := by rw [fillG_len]; omega
    exact m1.set (List.getElem?_eq_getElem hlt) (more, 0) (.inr ⟨by decide, rfl, by decide, by decide, fun h => absurd h (by decide)⟩) (fun h => absurd h (by decide))
theorem m_plain (h : SepO W oo w (mparts b L f n lg)) {i : Nat} {p : Pg × Nat} (hp : lg[i]? = some p) (k s : Int) (pe : Bool) :
    SepO W oo ((((w.setCell ⟨L, i * 4, none⟩ (.int .i64 k)).setCell ⟨L, i * 4 + 1, none⟩ (.int .i64 s)).setCell ⟨L, i * 4 + 2, none⟩ (.slice none 0 0)).setCell ⟨L, i * 4 + 3, none⟩ (.bool pe)) (mparts b L f n (lg.set i (⟨k, s, [], pe⟩, 0))) := by
  have h1 := m_put0 (l := []) (by rw [List.append_nil]; exact h) hp (⟨k, s, [], pe⟩, 0) rfl
  rw [List.append_nil] at h1
  exact h1
set_option maxRecDepth 20000 in
set_option maxHeartbeats 4000000 in
theorem Take_in (x : Int) (hx : x ≤ 9223372036854775807) (h : SepO W oo w (mparts b L f n lg)) (m : MW f n lg) :
    Calls Tryz.prog 139 #[pt b, .int .i64 x] w fun e w' => e = .returned (.tuple #[.int .i64 (oI (takeR f n x (lg.map (·.1))).1), .bool (takeR f n x (lg.map (·.1))).1.isSome]) ∧ ∃ lg', SepO W oo w' (mparts b L f n lg') ∧ lg'.map (·.1) = (takeR f n x (lg.map (·.1))).2 := by
  have n0 := m.n0
  have n1 := m.n1
  have hl := m.len
  obtain ⟨⟨R1, R2⟩, hR⟩ : ∃ R, takeR f n x (lg.map (·.1)) = R := ⟨_, rfl⟩
  rw [hR]
  simp only []
  have c1 := (m_blk h).cell 1
  simp at c1
  have H := Lib.hid h
  have M := Lib.hid m
  by_cases hx1 : x < 1
  · have hE : R1 = none ∧ R2 = lg.map (·.1) := by
      unfold takeR at hR
      rw [if_pos hx1] at hR
      cases hR
      exact ⟨rfl, rfl⟩
    have HE := Lib.hid hE
    clear hE hR h m c1
    go_enter Tryz.func139, Tryz.ntmps139
    go_wp2_with fail
    go_ret2
    exact ⟨by rw [HE.out.1]; rfl, lg, H.out, HE.out.2.symm⟩
  · have g1 : decide (x < 1) = false := by simpa using hx1
    have hrb := rnd_b x
    have hlg := Large_calls n x w (by omega) (by omega)
    cases hbg : big n x
    · have hR' := hR
      unfold takeR at hR'
      rw [if_neg hx1, hbg, if_neg (by simp)] at hR'
      rw [hbg] at hlg
      have hle : rnd x ≤ n := by
        unfold big at hbg
        have h1 : ¬ n / 2 < rnd x := by simpa using hbg
        omega
      have hib := inBlock_in (rnd x) ⟨by omega, hle⟩ h m
      rw [hR'] at hib
      have hrd := Round_calls x w
      generalize rnd x = rx at hib hrd
      have HL := Lib.hid hlg
      have HI := Lib.hid hib
      have HR := Lib.hid hrd
      clear hlg hib hrd hR hR' hrb hle hbg h m
      go_enter Tryz.func139, Tryz.ntmps139
      go_wp2_with fail
      refine HL.out.mono ?_
      rintro e w2 ⟨rfl, rfl⟩
      go_wp2_with fail
      refine HR.out.mono ?_
      rintro e w2 ⟨rfl, rfl⟩
      go_wp2_with fail
      refine HI.out.mono ?_
      rintro e w2 ⟨rfl, h2⟩
      go_wp2_with fail
      go_ret2
      exact ⟨rfl, h2⟩
    · have hR' := hR
      unfold takeR at hR'
      rw [if_neg hx1, hbg, if_pos rfl] at hR'
      rw [hbg] at hlg
      obtain ⟨cb0, cb1⟩ := pgs_b n0 (by omega : 1 ≤ x)
      have hpc := Pages_calls n x w (by omega) hx
      have hmb : ∀ q : Nat, (q : Int) + pgs n x ≤ lg.length → (q : Int) + pgs n (2 : Int) ≤ q + pgs n 2 := fun _ _ => Int.le_refl _
      obtain ⟨C, hC⟩ : ∃ C, pgs n x = C := ⟨_, rfl⟩
      rw [hC] at hR' cb0 cb1 hpc
      have HCv := Lib.hid hC
      have HL := Lib.hid hlg
      have HP := Lib.hid hpc
      have hrow := fun k => row_in C (h.drewN k) m
      cases hrw : rowGo C (lg.map (·.1)) 0 0 with
      | none =>
        rw [hrw] at hrow hR'
        have hE : R1 = none ∧ R2 = lg.map (·.1) := by
          cases hR'
          exact ⟨rfl, rfl⟩
        have HE := Lib.hid hE
        have HW := Lib.hid hrow
        clear hE hR hR' h m hrow hpc hlg hmb hC hbg hrb
        go_enter Tryz.func139, Tryz.ntmps139
        go_wp2_with fail
        refine HL.out.mono ?_
        rintro e w2 ⟨rfl, rfl⟩
        go_wp2_with fail
        refine HP.out.mono ?_
        rintro e w2 ⟨rfl, k, rfl⟩
        go_wp2_with fail
        refine (HW.out k).mono ?_
        rintro e w2 ⟨rfl, rfl⟩
        have HH := Lib.hid (H.out.drewN k)
        go_wp2_with fail
        go_ret2
        exact ⟨by rw [HE.out.1]; rfl, lg, HH.out, HE.out.2.symm⟩
      | some qi =>
        rw [hrw] at hrow hR'
        obtain ⟨q0, q1⟩ := rowGo_b hrw (Int.le_refl 0)
        rw [List.length_map] at q1
        obtain ⟨q, rfl⟩ : ∃ q : Nat, qi = (q : Int) := ⟨qi.toNat, by omega⟩
        obtain ⟨D, rfl⟩ : ∃ D : Nat, C = (D : Int) := ⟨C.toNat, by omega⟩
        have hqD : q + D ≤ lg.length := by omega
        have hE : R1 = some (f + q * n) ∧ R2 = (fillM q D (lg.map (·.1))).set q ⟨2, x, [], false⟩ := by
          cases hR'
          exact ⟨rfl, rfl⟩
        have HE := Lib.hid hE
        have hrow' : ∀ k, Calls Tryz.prog 170 #[pt b, .int .i64 (D : Int)] (w.drewN k) fun e w' => e = .returned (.tuple #[.int .i64 q, .bool true]) ∧ w.drewN k = w' := hrow
        have HW := Lib.hid hrow'
        clear hE hR hR' h m hrow hrow' hpc hlg hmb hC hbg hrb hrw q0 q1
        go_enter Tryz.func139, Tryz.ntmps139
        go_wp2_with fail
        refine HL.out.mono ?_
        rintro e w2 ⟨rfl, rfl⟩
        go_wp2_with fail
        refine HP.out.mono ?_
        rintro e w2 ⟨rfl, k, rfl⟩
        go_wp2_with fail
        refine (HW.out k).mono ?_
        rintro e w2 ⟨rfl, rfl⟩
        have HH := Lib.hid (H.out.drewN k)
        clear HW HP HL H c1
        go_wp2_with fail
        go_loopg [44] D (fun gk z wr => ∃ j : Nat, j + gk = D ∧ z = .int .i64 j ∧ SepO W oo wr (mparts b L f n (fillG q j lg)))
        case atStart => exact ⟨0, by omega, rfl, HH.out⟩
        case round =>
          clear HH
          obtain ⟨j, hj, rfl, h⟩ := hrel
          have HJ := Lib.hid hj
          have hjD : j ≤ D := by omega
          clear hj
          have c2 : wr.cell? ⟨b, 2, none⟩ = some (.slice (some ⟨L, 0, none⟩) lg.length lg.length) := by
            have := (m_blk h).cell 2
            rw [fillG_len] at this
            exact this
          by_cases hlt : j < D
          · have hlt' : q + j < (fillG q j lg).length := by rw [fillG_len]; omega
            obtain ⟨p, hp⟩ : ∃ p, (fillG q j lg)[q + j]? = some p := ⟨_, List.getElem?_eq_getElem hlt'⟩
            obtain ⟨p0, p1, p2, p3⟩ := m_page h hp
            have z0 := (m_list h).frozen ((q + j) * 4)
            have z1 := (m_list h).frozen ((q + j) * 4 + 1)
            have z2 := (m_list h).frozen ((q + j) * 4 + 2)
            have z3 := (m_list h).frozen ((q + j) * 4 + 3)
            have h9 := m_plain h hp 3 0 false
            have H9 := Lib.hid h9
            clear h9 hp h
            go_wp2_with fail
            go_roundg (gk - 1)
            case measure => have := HJ.out; omega
            case rel => exact ⟨j + 1, by have := HJ.out; omega, by go_num, H9.out⟩
          · have hje : j = D := by omega
            subst hje
            have m1 := M.out.fill q j hqD
            have hlt' : q < (fillG q j lg).length := by rw [fillG_len]; omega
            obtain ⟨p, hp⟩ : ∃ p, (fillG q j lg)[q]? = some p := ⟨_, List.getElem?_eq_getElem hlt'⟩
            obtain ⟨p0, p1, p2, p3⟩ := m_page h hp
            have z0 := (m_list h).frozen (q * 4)
            have z1 := (m_list h).frozen (q * 4 + 1)
            have z2 := (m_list h).frozen (q * 4 + 2)
            have z3 := (m_list h).frozen (q * 4 + 3)
            have h9 := m_plain h hp 2 x false
            have m2 := m1.set hp (⟨2, x, [], false⟩, 0) (.inr ⟨(by show (2 : Int) ≠ 1; decide), rfl, (by show (0 : Int) ≤ 2; decide), (by show (2 : Int) ≤ 3; decide), fun _ => ⟨by show 1 ≤ x; omega, hx⟩⟩) (fun _ => by rw [fillG_len]; show (q : Int) + pgs n x ≤ _; rw [HCv.out]; omega)
            have H9 := Lib.hid h9
            have M9 := Lib.hid m2
            clear h9 hp h m1 m2 hlt hlt'
            go_wp2_with fail
            refine (begin_in q H9.out M9.out (by omega)).mono ?_
            rintro e w7 ⟨rfl, r, rfl⟩
            go_wp2_with fail
            go_ret2
            refine ⟨?_, _, H9.out.drewN r, ?_⟩
            · rw [HE.out.1]; rfl
            · rw [HE.out.2, List.map_set, fillG_map]
end
end Go.Proofs.YtihmkkjmnbehbaaGreat.Ma
