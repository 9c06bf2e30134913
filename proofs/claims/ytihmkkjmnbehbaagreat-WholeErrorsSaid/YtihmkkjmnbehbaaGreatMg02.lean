/- Texts of the whole heap, joined: MatA MatB. No condition beside those that each lemma names. -/
import Derived.Test.YtihmkkjmnbehbaaGreatMg01
import Derived.Deep.LoopGhost
/- Contracts of package mature, the small ones. No condition. -/
set_option linter.unusedVariables false
set_option linter.unusedSimpArgs false
namespace Go.Proofs.YtihmkkjmnbehbaaGreat.Ma
open Go.RowKit Go.Proofs.YtihmkkjmnbehbaaGreat.W Go.Proofs.YtihmkkjmnbehbaaGreat.Cl

/-- The numbers of a space are in their bounds, and its pages are what pages may be. -/
structure MW (f n : Int) (lg : List (Pg × Nat)) : Prop where
  f0 : 0 ≤ f
  f1 : f ≤ 1048576
  n0 : 1 ≤ n
  n1 : n ≤ 256
  len : lg.length ≤ 64
  page : ∀ p ∈ lg, p.1.ok n
  big : ∀ (i : Nat) p, lg[i]? = some p → p.1.kind = 2 → (i : Int) + pgs n p.1.size ≤ lg.length
theorem used_le {n : Int} {p : Pg} (h : p.ok n) (hn : n ≤ 256) (h0 : 1 ≤ n) : p.used.length ≤ 256 := by
  rcases h with ⟨_, h1, h2, h3⟩ | ⟨_, h1, _⟩
  · have := Int.ediv_le_self p.size (by omega : 0 ≤ n); omega
  · rw [h1]; simp
section
variable {W w : World} {oo : Nat → Prop} {b L : Nat} {f n : Int} {lg : List (Pg × Nat)}
theorem begin_in (i : Nat) (h : SepO W oo w (mparts b L f n lg)) (m : MW f n lg) (hi : i ≤ 64) : Calls Tryz.prog 163 #[pt b, .int .i64 i] w fun e w' => e = .returned (.int .i64 (f + i * n)) ∧ ∃ k, w' = w.drewN k := by
  obtain ⟨m1, m2, m3, m4, m5, m6, _⟩ := m
  have c0 := (m_blk h).cell 0
  have c1 := (m_blk h).cell 1
  simp at c0 c1
  obtain ⟨x, hx⟩ : ∃ x, (i : Int) * n = x := ⟨_, rfl⟩
  have hx0 : 0 ≤ x := by rw [← hx]; exact Int.mul_nonneg (by omega) (by omega)
  have hx1 : x ≤ 64 * 256 := by
    rw [← hx]
    have h1 := Int.mul_le_mul_of_nonneg_right (by omega : (i : Int) ≤ 64) (by omega : 0 ≤ n)
    omega
  have e1 := IntWalk.i64_in x (by omega)
  have e2 := IntWalk.i64_in (f + x) (by omega)
  rw [hx]
  go_enter Tryz.func163, Tryz.ntmps163
  go_wp2_with fail
  go_quiet (fail)
  go_wp2_with fail
  go_ret
  exact ⟨rfl, _, rfl⟩

/-- Has a page no cell in use? -/
def noneB (u : List Bool) : Bool := !u.any id
theorem noneB_drop {u : List Bool} {k : Nat} (hk : k < u.length) : noneB (u.drop k) = (!(u[k]?.getD false) && noneB (u.drop (k + 1))) := by
  have h := List.drop_eq_getElem_cons hk
  unfold noneB
  rw [h, List.any_cons, List.getElem?_eq_getElem hk]
  simp
theorem none_in {i : Nat} {p : Pg × Nat} (h : SepO W oo w (mparts b L f n lg)) (m : MW f n lg) (hp : lg[i]? = some p) :
    Calls Tryz.prog 175 #[.pointer (some ⟨L, i * 4, none⟩)] w fun e w' => e = .returned (.bool (noneB p.1.used)) ∧ w = w' := by
  have hpg := (m_page h hp).2.2.1
  have hul := used_le (m.page p (List.mem_of_getElem? hp)) m.n1 m.n0
  obtain ⟨V, hV⟩ : ∃ V, noneB p.1.used = V := ⟨_, rfl⟩
  rw [hV]
  by_cases hu : p.1.used = []
  · have hv : V = true := by rw [← hV, hu]; rfl
    subst hv
    have c2 : w.cell? ⟨L, i * 4 + 2, none⟩ = some (.slice none 0 0) := by rw [hpg]; unfold usl; rw [hu]; rfl
    clear hpg hul hV
    go_enter Tryz.func175, Tryz.ntmps175
    go_wp2_with fail
    refine wp_loop_rounds 1 ?_
    rw [rounds_succ]
    go_wp2_with fail
    go_ret
    exact ⟨rfl, rfl⟩
  · have c2 : w.cell? ⟨L, i * 4 + 2, none⟩ = some (.slice (some ⟨p.2, 0, none⟩) p.1.used.length p.1.used.length) := by rw [hpg]; unfold usl; rw [if_neg (by simpa using hu)]
    have hb := h.blk (i + 2) (m_used h hp hu)
    have hcell : ∀ k, k < p.1.used.length → w.cell? ⟨p.2, k, none⟩ = some (.bool (p.1.used[k]?.getD false)) := fun k hk => by rw [hb.cell, bools_get hk]
    have HC := Lib.hid hcell
    have HV := Lib.hid hV
    generalize p.1.used = u at *
    clear hpg hb hcell hV hu
    go_enter Tryz.func175, Tryz.ntmps175
    go_wp2_with fail
    go_loopg [10] u.length (fun gk z wr => ∃ j : Nat, j + gk = u.length ∧ z = .int .i64 j ∧ noneB (u.drop j) = V ∧ wr = w)
    case atStart => exact ⟨0, by omega, rfl, HV.out, rfl⟩
    case round =>
      obtain ⟨j, hj, rfl, hv, rfl⟩ := hrel
      have HJ := Lib.hid hj
      have HV' := Lib.hid hv
      have hjl : j ≤ u.length := by omega
      clear hj hv HV
      by_cases hlt : j < u.length
      · have ei := HC.out j hlt
        have hd := noneB_drop hlt
        rw [HV'.out] at hd
        cases hx : u[j]?.getD false
        · rw [hx] at ei hd
          have HD := Lib.hid hd
          clear hx hd
          go_wp2_with fail
          go_roundg (gk - 1)
          case measure => have := HJ.out; omega
          case rel => exact ⟨j + 1, by have := HJ.out; omega, by go_num, by rw [HD.out]; simp, rfl⟩
        · rw [hx] at ei hd
          have HD := Lib.hid hd
          clear hx hd
          go_wp2_with fail
          go_ret
          exact ⟨by rw [HD.out]; rfl, rfl⟩
      · have hv : V = true := by rw [← HV'.out, List.drop_of_length_le (by omega)]; rfl
        subst hv
        go_wp2_with fail
        go_ret
        exact ⟨rfl, rfl⟩

/-- The first cell that is not used. -/
def fz : List Bool → Option Nat
  | [] => none
  | false :: _ => some 0
  | true :: r => (fz r).map (· + 1)
theorem fz_lt {u : List Bool} {k : Nat} (h : fz u = some k) : k < u.length := by
  induction u generalizing k with
  | nil => cases h
  | cons x r ih =>
    cases x with
    | false => simp [fz] at h; subst h; simp
    | true =>
      simp only [fz, Option.map_eq_some_iff] at h
      obtain ⟨a, ha, rfl⟩ := h
      have := ih ha
      simp; omega
theorem fz_drop {u : List Bool} {k : Nat} (hk : k < u.length) : fz (u.drop k) = if u[k]?.getD false then (fz (u.drop (k + 1))).map (· + 1) else some 0 := by
  have h := List.drop_eq_getElem_cons hk
  rw [h, List.getElem?_eq_getElem hk]
  cases u[k] <;> simp [fz]
def mark (p : Pg × Nat) (k : Nat) (x : Bool) : Pg × Nat := (⟨p.1.kind, p.1.size, p.1.used.set k x, p.1.pend⟩, p.2)
def optI : Option Nat → Int | some k => k | none => -1
theorem cell_in {i : Nat} {p : Pg × Nat} (h : SepO W oo w (mparts b L f n lg)) (m : MW f n lg) (hp : lg[i]? = some p) :
    Calls Tryz.prog 178 #[.pointer (some ⟨L, i * 4, none⟩)] w fun e w' => e = .returned (.int .i64 (optI (fz p.1.used))) ∧ SepO W oo w' (mparts b L f n (match fz p.1.used with | some k => lg.set i (mark p k true) | none => lg)) := by
  have hpg := (m_page h hp).2.2.1
  have hul := used_le (m.page p (List.mem_of_getElem? hp)) m.n1 m.n0
  obtain ⟨V, hV⟩ : ∃ V, fz p.1.used = V := ⟨_, rfl⟩
  rw [hV]
  by_cases hu : p.1.used = []
  · have hv : V = none := by rw [← hV, hu]; rfl
    subst hv
    have c2 : w.cell? ⟨L, i * 4 + 2, none⟩ = some (.slice none 0 0) := by rw [hpg]; unfold usl; rw [hu]; rfl
    clear hpg hul hV
    go_enter Tryz.func178, Tryz.ntmps178
    go_wp2_with fail
    refine wp_loop_rounds 1 ?_
    rw [rounds_succ]
    go_wp2_with fail
    go_ret
    exact ⟨rfl, h⟩
  · have c2 : w.cell? ⟨L, i * 4 + 2, none⟩ = some (.slice (some ⟨p.2, 0, none⟩) p.1.used.length p.1.used.length) := by rw [hpg]; unfold usl; rw [if_neg (by simpa using hu)]
    have hb := h.blk (i + 2) (m_used h hp hu)
    have hcell : ∀ k, k < p.1.used.length → w.cell? ⟨p.2, k, none⟩ = some (.bool (p.1.used[k]?.getD false)) := fun k hk => by rw [hb.cell, bools_get hk]
    have hfz : ∀ k, w.frozen? ⟨p.2, k, none⟩ = false := fun k => hb.frozen k
    have hmk := fun k => m_mark h hp hu k true
    have HC := Lib.hid hcell
    have HF := Lib.hid hfz
    have HV := Lib.hid hV
    have HM := Lib.hid hmk
    have HH := Lib.hid h
    unfold mark
    generalize p.1.used = u at *
    clear hpg hb hcell hfz hmk hV hu h
    go_enter Tryz.func178, Tryz.ntmps178
    go_wp2_with fail
    go_loopg [10] u.length (fun gk z wr => ∃ j : Nat, j + gk = u.length ∧ z = .int .i64 j ∧ (fz (u.drop j)).map (· + j) = V ∧ wr = w)
    case atStart => exact ⟨0, by omega, rfl, by simp [HV.out], rfl⟩
    case round =>
      obtain ⟨j, hj, rfl, hv, hw⟩ := hrel
      subst hw
      have HJ := Lib.hid hj
      have HV' := Lib.hid hv
      have hjl : j ≤ u.length := by omega
      clear hj hv HV
      by_cases hlt : j < u.length
      · have ei := HC.out j hlt
        have zi := HF.out j
        have hd := fz_drop hlt
        cases hx : u[j]?.getD false
        · rw [hx] at ei hd
          have hv : V = some j := by rw [← HV'.out, hd]; simp
          subst hv
          have hm := HM.out j
          have HM' := Lib.hid hm
          clear hx hd hm
          go_wp2_with fail
          go_ret
          exact ⟨rfl, HM'.out⟩
        · rw [hx] at ei hd
          have hv : (fz (u.drop (j + 1))).map (· + (j + 1)) = V := by
            rw [← HV'.out, hd]; simp [Option.map_map, Function.comp_def]; congr 1; funext x; omega
          have HD := Lib.hid hv
          clear hx hd hv
          go_wp2_with fail
          go_roundg (gk - 1)
          case measure => have := HJ.out; omega
          case rel => exact ⟨j + 1, by have := HJ.out; omega, by go_num, HD.out, rfl⟩
      · have hv : V = none := by rw [← HV'.out, List.drop_of_length_le (by omega)]; rfl
        subst hv
        go_wp2_with fail
        go_ret
        exact ⟨rfl, HH.out⟩

/-- The first of so many free pages, side by side; n: the page that is looked at, run: how many free ones stand ahead of it. -/
def rowGo (count : Int) : List Pg → Int → Int → Option Int
  | [], _, _ => none
  | p :: r, n, run => if p.kind ≠ 0 then rowGo count r (n + 1) 0 else if run + 1 = count then some (n - count + 1) else rowGo count r (n + 1) (run + 1)
def rowI : Option Int → Int | some k => k | none => 0
theorem row_in (x : Int) (h : SepO W oo w (mparts b L f n lg)) (m : MW f n lg) :
    Calls Tryz.prog 170 #[pt b, .int .i64 x] w fun e w' => e = .returned (.tuple #[.int .i64 (rowI (rowGo x (lg.map (·.1)) 0 0)), .bool (rowGo x (lg.map (·.1)) 0 0).isSome]) ∧ w = w' := by
  have c2 := (m_blk h).cell 2
  simp at c2
  have hpg : ∀ j p, lg[j]? = some p → w.cell? ⟨L, j * 4, none⟩ = some (.int .i64 p.1.kind) := fun j p hp => (m_page h hp).1
  have hl := m.len
  obtain ⟨V, hV⟩ : ∃ V, rowGo x (lg.map (·.1)) 0 0 = V := ⟨_, rfl⟩
  rw [hV]
  have HV := Lib.hid hV
  have HP := Lib.hid hpg
  clear hV hpg h m
  go_enter Tryz.func170, Tryz.ntmps170
  go_wp2_with fail
  go_loopg [6, 13] lg.length (fun gk ru z wr => ∃ (j : Nat) (r : Int), j + gk = lg.length ∧ z = .int .i64 j ∧ ru = .int .i64 r ∧ 0 ≤ r ∧ r ≤ j ∧ rowGo x ((lg.map (·.1)).drop j) j r = V ∧ wr = w)
  case atStart => exact ⟨0, 0, by omega, rfl, rfl, by omega, by omega, HV.out, rfl⟩
  case round =>
    obtain ⟨j, r, hj, rfl, rfl, r0, r1, hv, rfl⟩ := hrel
    have HJ := Lib.hid hj
    have HV' := Lib.hid hv
    have hjl : j ≤ lg.length := by omega
    clear hj hv HV
    by_cases hlt : j < lg.length
    · obtain ⟨p, hp⟩ : ∃ p, lg[j]? = some p := ⟨lg[j], List.getElem?_eq_getElem hlt⟩
      have ei := HP.out j p hp
      have hd : (lg.map (·.1)).drop j = p.1 :: (lg.map (·.1)).drop (j + 1) := by
        rw [List.drop_eq_getElem_cons (by simpa using hlt)]
        have : lg[j] = p := by rw [List.getElem?_eq_getElem hlt] at hp; simpa using hp
        simp [this]
      have hv := HV'.out
      rw [hd] at hv
      simp only [rowGo] at hv
      by_cases hk : p.1.kind = 0
      · rw [if_neg (by simpa using hk)] at hv
        rw [hk] at ei
        by_cases hrx : r + 1 = x
        · rw [if_pos hrx] at hv
          subst hv
          have hb : (r + 1 == x) = true := by simpa using hrx
          have hx9 : x ≤ 65 := by omega
          have hx0 : 1 ≤ x := by omega
          clear hd hk hp hrx
          go_wp2_with fail
          go_ret2
          exact ⟨rfl, rfl⟩
        · rw [if_neg hrx] at hv
          have hb : (r + 1 == x) = false := by simpa using hrx
          have HD := Lib.hid hv
          clear hd hk hp hrx hv
          go_wp2_with fail
          go_roundg (gk - 1)
          case measure => have := HJ.out; omega
          case rel => exact ⟨j + 1, r + 1, by have := HJ.out; omega, by go_num, rfl, by omega, by omega, HD.out, rfl⟩
      · rw [if_pos hk] at hv
        have hb : (p.1.kind != 0) = true := by simpa using hk
        have HD := Lib.hid hv
        clear hd hk hp hv
        go_wp2_with fail
        go_roundg (gk - 1)
        case measure => have := HJ.out; omega
        case rel => exact ⟨j + 1, 0, by have := HJ.out; omega, by go_num, rfl, by omega, by omega, HD.out, rfl⟩
    · have hv : V = none := by rw [← HV'.out, List.drop_of_length_le (by simpa using Nat.le_of_not_lt hlt)]; rfl
      subst hv
      go_wp2_with fail
      go_ret2
      exact ⟨rfl, rfl⟩
end
end Go.Proofs.YtihmkkjmnbehbaaGreat.Ma
/- Contracts of package mature, what asks of pages. No condition. -/
set_option linter.unusedVariables false
set_option linter.unusedSimpArgs false
namespace Go.Proofs.YtihmkkjmnbehbaaGreat.Ma
open Go.RowKit Go.Proofs.YtihmkkjmnbehbaaGreat.W Go.Proofs.YtihmkkjmnbehbaaGreat.Cl

def freeN (l : List Pg) : Nat := l.countP (fun p => p.kind == 0)
def pdP (p : Pg) : Pg := { p with pend := p.kind == 1 || p.kind == 2 }
def pd (p : Pg × Nat) : Pg × Nat := (pdP p.1, p.2)
def pn : List Pg → Option Nat
  | [] => none
  | p :: r => if p.pend then some 0 else (pn r).map (· + 1)
def doneB (l : List Pg) (k : Int) : Bool := if 0 ≤ k then (match l[k.toNat]? with | some p => p.pend | none => false) else false
def unP (p : Pg) : Pg := { p with pend := false }
def un (p : Pg × Nat) : Pg × Nat := (unP p.1, p.2)
theorem set_mid {α : Type} {l : List α} {g : α → α} {j : Nat} {p : α} (h : l[j]? = some p) : ((l.take j).map g ++ l.drop j)[j]? = some p ∧ ((l.take j).map g ++ l.drop j).set j (g p) = (l.take (j + 1)).map g ++ l.drop (j + 1) := by
  have hj := (List.getElem?_eq_some_iff.1 h).1
  have hlen : ((l.take j).map g).length = j := by simp; omega
  have hd : l.drop j = p :: l.drop (j + 1) := by
    rw [List.drop_eq_getElem_cons hj]
    have : l[j] = p := by rw [List.getElem?_eq_getElem hj] at h; simpa using h
    rw [this]
  have ht : l.take (j + 1) = l.take j ++ [p] := by
    rw [List.take_add_one, h]; rfl
  constructor
  · rw [List.getElem?_append_right (by omega), hlen, Nat.sub_self, hd]; rfl
  · rw [List.set_append_right _ _ (by omega), hlen, Nat.sub_self, hd, List.set_cons_zero, ht]; simp
section
variable {W w : World} {oo : Nat → Prop} {b L : Nat} {f n : Int} {lg : List (Pg × Nat)}
theorem Free_in (h : SepO W oo w (mparts b L f n lg)) (m : MW f n lg) : Calls Tryz.prog 108 #[pt b] w fun e w' => e = .returned (.int .i64 (freeN (lg.map (·.1)))) ∧ w = w' := by
  have c2 := (m_blk h).cell 2
  simp at c2
  have hpg : ∀ j p, lg[j]? = some p → w.cell? ⟨L, j * 4, none⟩ = some (.int .i64 p.1.kind) := fun j p hp => (m_page h hp).1
  have hl := m.len
  obtain ⟨V, hV⟩ : ∃ V, freeN (lg.map (·.1)) = V := ⟨_, rfl⟩
  rw [hV]
  have HV := Lib.hid hV
  have HP := Lib.hid hpg
  clear hV hpg h m
  go_enter Tryz.func108, Tryz.ntmps108
  go_wp2_with fail
  go_loopg [3, 12] lg.length (fun gk o z wr => ∃ (j : Nat) (r : Nat), j + gk = lg.length ∧ z = .int .i64 j ∧ o = .int .i64 r ∧ r ≤ j ∧ r + freeN ((lg.map (·.1)).drop j) = V ∧ wr = w)
  case atStart => exact ⟨0, 0, by omega, rfl, rfl, by omega, by simpa using HV.out, rfl⟩
  case round =>
    obtain ⟨j, r, hj, rfl, rfl, r1, hv, rfl⟩ := hrel
    have HJ := Lib.hid hj
    have HV' := Lib.hid hv
    have hjl : j ≤ lg.length := by omega
    clear hj hv HV
    by_cases hlt : j < lg.length
    · obtain ⟨p, hp⟩ : ∃ p, lg[j]? = some p := ⟨lg[j], List.getElem?_eq_getElem hlt⟩
      have ei := HP.out j p hp
      have hd : (lg.map (·.1)).drop j = p.1 :: (lg.map (·.1)).drop (j + 1) := by
        rw [List.drop_eq_getElem_cons (by simpa using hlt)]
        have : lg[j] = p := by rw [List.getElem?_eq_getElem hlt] at hp; simpa using hp
        simp [this]
      have hv := HV'.out
      rw [hd] at hv
      unfold freeN at hv
      rw [List.countP_cons] at hv
      by_cases hk : p.1.kind = 0
      · rw [hk] at ei
        simp only [hk, beq_self_eq_true, if_true] at hv
        have HD := Lib.hid hv
        clear hd hk hp hv
        go_wp2_with fail
        go_roundg (gk - 1)
        case measure => have := HJ.out; omega
        case rel => exact ⟨j + 1, r + 1, by have := HJ.out; omega, by go_num, by go_num, by omega, by have := HD.out; unfold freeN; omega, rfl⟩
      · have hb : (p.1.kind == 0) = false := by simpa using hk
        simp only [hb, Bool.false_eq_true, if_false] at hv
        have HD := Lib.hid hv
        clear hd hk hp hv
        go_wp2_with fail
        go_roundg (gk - 1)
        case measure => have := HJ.out; omega
        case rel => exact ⟨j + 1, r, by have := HJ.out; omega, by go_num, rfl, by omega, by have := HD.out; unfold freeN; omega, rfl⟩
    · have hv : r = V := by
        have := HV'.out
        rw [List.drop_of_length_le (by simpa using Nat.le_of_not_lt hlt)] at this
        simpa [freeN] using this
      subst hv
      go_wp2_with fail
      go_ret
      exact ⟨rfl, rfl⟩

theorem Pending_in (h : SepO W oo w (mparts b L f n lg)) (m : MW f n lg) : Calls Tryz.prog 149 #[pt b] w fun e w' => e = .returned (.tuple #[.int .i64 (match pn (lg.map (·.1)) with | some k => (k : Int) | none => 0), .bool (pn (lg.map (·.1))).isSome]) ∧ w = w' := by
  have c2 := (m_blk h).cell 2
  simp at c2
  have hpg : ∀ j p, lg[j]? = some p → w.cell? ⟨L, j * 4 + 3, none⟩ = some (.bool p.1.pend) := fun j p hp => (m_page h hp).2.2.2
  have hl := m.len
  obtain ⟨V, hV⟩ : ∃ V, pn (lg.map (·.1)) = V := ⟨_, rfl⟩
  rw [hV]
  have HV := Lib.hid hV
  have HP := Lib.hid hpg
  clear hV hpg h m
  go_enter Tryz.func149, Tryz.ntmps149
  go_wp2_with fail
  go_loopg [12] lg.length (fun gk z wr => ∃ (j : Nat), j + gk = lg.length ∧ z = .int .i64 j ∧ (pn ((lg.map (·.1)).drop j)).map (· + j) = V ∧ wr = w)
  case atStart => exact ⟨0, by omega, rfl, by simp [HV.out], rfl⟩
  case round =>
    obtain ⟨j, hj, rfl, hv, rfl⟩ := hrel
    have HJ := Lib.hid hj
    have HV' := Lib.hid hv
    have hjl : j ≤ lg.length := by omega
    clear hj hv HV
    by_cases hlt : j < lg.length
    · obtain ⟨p, hp⟩ : ∃ p, lg[j]? = some p := ⟨lg[j], List.getElem?_eq_getElem hlt⟩
      have ei := HP.out j p hp
      have hd : (lg.map (·.1)).drop j = p.1 :: (lg.map (·.1)).drop (j + 1) := by
        rw [List.drop_eq_getElem_cons (by simpa using hlt)]
        have : lg[j] = p := by rw [List.getElem?_eq_getElem hlt] at hp; simpa using hp
        simp [this]
      have hv := HV'.out
      rw [hd] at hv
      simp only [pn] at hv
      cases hk : p.1.pend
      · rw [hk] at ei hv
        simp only [Bool.false_eq_true, if_false, Option.map_map] at hv
        have hv2 : (pn ((lg.map (·.1)).drop (j + 1))).map (· + (j + 1)) = V := by rw [← hv]; congr 1; funext x; simp; omega
        have HD := Lib.hid hv2
        clear hd hk hp hv hv2
        go_wp2_with fail
        go_roundg (gk - 1)
        case measure => have := HJ.out; omega
        case rel => exact ⟨j + 1, by have := HJ.out; omega, by go_num, HD.out, rfl⟩
      · rw [hk] at ei hv
        simp at hv
        subst hv
        clear hd hk hp
        go_wp2_with fail
        go_ret2
        exact ⟨rfl, rfl⟩
    · have hv : V = none := by rw [← HV'.out, List.drop_of_length_le (by simpa using Nat.le_of_not_lt hlt)]; rfl
      subst hv
      go_wp2_with fail
      go_ret2
      exact ⟨rfl, rfl⟩

theorem Done_in (k : Int) (h : SepO W oo w (mparts b L f n lg)) (m : MW f n lg) : Calls Tryz.prog 153 #[pt b, .int .i64 k] w fun e w' =>
    e = .returned (.bool (doneB (lg.map (·.1)) k)) ∧ SepO W oo w' (mparts b L f n (if doneB (lg.map (·.1)) k then lg.modify k.toNat un else lg)) := by
  have c2 := (m_blk h).cell 2
  simp at c2
  have hl := m.len
  rcases (by omega : k < 0 ∨ (0 ≤ k ∧ (lg.length : Int) ≤ k) ∨ (0 ≤ k ∧ k < lg.length)) with hx | ⟨hx, hy⟩ | ⟨hx, hy⟩
  · have hd : doneB (lg.map (·.1)) k = false := if_neg (by omega)
    rw [hd, if_neg (by simp)]
    clear hd m
    go_enter Tryz.func153, Tryz.ntmps153
    go_wp2_with fail
    go_ret
    exact ⟨rfl, h⟩
  · have hd : doneB (lg.map (·.1)) k = false := by unfold doneB; rw [if_pos hx, List.getElem?_eq_none (by simp; omega)]
    rw [hd, if_neg (by simp)]
    have e1 : decide (k < 0) = false := by simpa using hx
    clear hd m
    go_enter Tryz.func153, Tryz.ntmps153
    go_wp2_with fail
    go_ret
    exact ⟨rfl, h⟩
  · obtain ⟨j, rfl⟩ : ∃ j : Nat, k = (j : Int) := ⟨k.toNat, by omega⟩
    have hjl : j < lg.length := by omega
    obtain ⟨p, hp⟩ : ∃ p, lg[j]? = some p := ⟨lg[j], List.getElem?_eq_getElem hjl⟩
    have ei := (m_page h hp).2.2.2
    have hd : doneB (lg.map (·.1)) (j : Int) = p.1.pend := by unfold doneB; rw [if_pos hx, Int.toNat_natCast, List.getElem?_map, hp]; rfl
    rw [hd, Int.toNat_natCast]
    have hme : lg.modify j un = lg.set j (un p) := by
      apply List.ext_getElem?
      intro i
      rw [List.getElem?_modify, List.getElem?_set]
      by_cases hij : j = i
      · subst hij; rw [hp, if_pos rfl, if_pos hjl]; simp
      · simp [hij]
    rw [hme]
    have hfi := m_field (q := un p) h hp (j := 3) (by omega) (v := .bool false) (by simp [pcells, un, unP, usl]) (by simp [upart, un, unP])
    have zi := (m_list h).frozen (j * 4 + 3)
    have e1 : decide ((j : Int) < 0) = false := by simp
    have HF := Lib.hid hfi
    clear hd hfi hme m
    cases hv : p.1.pend
    · rw [hv] at ei
      rw [if_neg (by simp)]
      clear hv hp
      go_enter Tryz.func153, Tryz.ntmps153
      go_wp2_with fail
      go_ret
      exact ⟨rfl, h⟩
    · rw [hv] at ei
      rw [if_pos rfl]
      clear hv hp h
      go_enter Tryz.func153, Tryz.ntmps153
      go_wp2_with fail
      go_ret
      exact ⟨rfl, HF.out⟩

theorem Page_in (k : Int) (h : SepO W oo w (mparts b L f n lg)) (m : MW f n lg) : Calls Tryz.prog 150 #[pt b, .int .i64 k] w fun e w' =>
    e = .returned (.tuple #[.int .i64 (if 0 ≤ k ∧ k < lg.length then f + k * n else 0), .int .i64 (if 0 ≤ k ∧ k < lg.length then f + k * n + n else 0)]) ∧ ∃ j, w' = w.drewN j := by
  have c2 := (m_blk h).cell 2
  have c1 := (m_blk h).cell 1
  simp at c2 c1
  have hl := m.len
  rcases (by omega : k < 0 ∨ (0 ≤ k ∧ (lg.length : Int) ≤ k) ∨ (0 ≤ k ∧ k < lg.length)) with hx | ⟨hx, hy⟩ | ⟨hx, hy⟩
  · rw [if_neg (by omega), if_neg (by omega)]
    clear m
    go_enter Tryz.func150, Tryz.ntmps150
    go_wp2_with fail
    go_ret2
    exact ⟨rfl, 0, rfl⟩
  · rw [if_neg (by omega), if_neg (by omega)]
    have e1 : decide (k < 0) = false := by simpa using hx
    clear m
    go_enter Tryz.func150, Tryz.ntmps150
    go_wp2_with fail
    go_ret2
    exact ⟨rfl, 0, rfl⟩
  · rw [if_pos ⟨hx, hy⟩, if_pos ⟨hx, hy⟩]
    obtain ⟨j, rfl⟩ : ∃ j : Nat, k = (j : Int) := ⟨k.toNat, by omega⟩
    have hb : ∀ q, Calls Tryz.prog 163 #[pt b, .int .i64 (j : Int)] (w.drewN q) fun e w' => e = .returned (.int .i64 (f + j * n)) ∧ ∃ r, w' = (w.drewN q).drewN r := fun q => begin_in j (h.drewN q) m (by omega)
    have hx0 : 0 ≤ (j : Int) * n := Int.mul_nonneg (by omega) (by have := m.n0; omega)
    have hx1 : (j : Int) * n ≤ 64 * 256 := by
      have h1 := Int.mul_le_mul_of_nonneg_right (by omega : (j : Int) ≤ 64) (by have := m.n0; omega : 0 ≤ n)
      have := m.n1
      omega
    have f0 := m.f0
    have f1 := m.f1
    have n0 := m.n0
    have n1 := m.n1
    obtain ⟨x, hxx⟩ : ∃ x, f + (j : Int) * n = x := ⟨_, rfl⟩
    have hxb : 0 ≤ x ∧ x ≤ 2000000 := by omega
    obtain ⟨hxb0, hxb1⟩ := hxb
    simp only [hxx] at hb
    rw [hxx]
    have e1 : decide ((j : Int) < 0) = false := by simp
    have e2 := IntWalk.i64_in (x + n) (by omega)
    have HB := Lib.hid hb
    clear hb hxx hx0 hx1 m h
    go_enter Tryz.func150, Tryz.ntmps150
    go_wp2_with fail
    go_quiet ((go_at_call 163; exact Calls.quiet_of (HB.out _)))
    go_wp2_with fail
    go_ret2
    exact ⟨rfl, _, rfl⟩

theorem Pend_in (h : SepO W oo w (mparts b L f n lg)) (m : MW f n lg) : Calls Tryz.prog 148 #[pt b] w fun e w' => e = .returned (.tuple #[]) ∧ SepO W oo w' (mparts b L f n (lg.map pd)) := by
  have c2 := (m_blk h).cell 2
  simp at c2
  have hl := m.len
  have HH := Lib.hid h
  clear m h
  go_enter Tryz.func148, Tryz.ntmps148
  go_wp2_with fail
  go_loopg [10] lg.length (fun gk z wr => ∃ (j : Nat), j + gk = lg.length ∧ z = .int .i64 j ∧ SepO W oo wr (mparts b L f n ((lg.take j).map pd ++ lg.drop j)))
  case atStart => exact ⟨0, by omega, rfl, by simpa using HH.out⟩
  case round =>
    clear c2
    obtain ⟨j, hj, rfl, h⟩ := hrel
    have HJ := Lib.hid hj
    have hjl : j ≤ lg.length := by omega
    have hlen : ((lg.take j).map pd ++ lg.drop j).length = lg.length := by simp; omega
    have c2 := (m_blk h).cell 2
    rw [hlen] at c2
    simp at c2
    clear hj hlen
    by_cases hlt : j < lg.length
    · obtain ⟨p, hp⟩ : ∃ p, lg[j]? = some p := ⟨lg[j], List.getElem?_eq_getElem hlt⟩
      obtain ⟨hp1, hp2⟩ := set_mid (g := pd) hp
      have ei := (m_page h hp1).1
      have e3 := (m_page h hp1).2.2.2
      have zi := (m_list h).frozen (j * 4 + 3)
      have hfi := fun q => m_field (q := pd p) (h.drewN q) hp1 (j := 3) (by omega) (v := .bool (p.1.kind == 1 || p.1.kind == 2)) (by simp [pcells, pd, pdP, usl]) (by simp [upart, pd, pdP])
      rw [hp2] at hfi
      have HF := Lib.hid hfi
      clear hp hp1 hp2 hfi h
      generalize p.1.kind = kk at ei HF
      rcases (by omega : kk = 1 ∨ kk = 2 ∨ (kk ≠ 1 ∧ kk ≠ 2)) with rfl | rfl | ⟨h1, h2⟩
      · go_wp2_with fail
        go_region
        all_goals
          go_wp2_with fail
          go_roundg (gk - 1)
          case measure => have := HJ.out; omega
          case rel => exact ⟨j + 1, by have := HJ.out; omega, by go_num, HF.out 1⟩
      · go_wp2_with fail
        go_region
        all_goals
          go_wp2_with fail
          go_roundg (gk - 1)
          case measure => have := HJ.out; omega
          case rel => exact ⟨j + 1, by have := HJ.out; omega, by go_num, HF.out 1⟩
      · have g1 : (kk == 1) = false := by simpa using h1
        have g2 : (kk == 2) = false := by simpa using h2
        have hf := HF.out
        simp only [g1, g2, Bool.or_false] at hf
        have HF' := Lib.hid hf
        clear h1 h2 HF hf
        go_wp2_with fail
        go_region
        all_goals
          go_wp2_with fail
          go_roundg (gk - 1)
          case measure => have := HJ.out; omega
          case rel => exact ⟨j + 1, by have := HJ.out; omega, by go_num, HF'.out 1⟩
    · have he : (lg.take j).map pd ++ lg.drop j = lg.map pd := by rw [List.take_of_length_le (by omega), List.drop_of_length_le (by omega), List.append_nil]
      rw [he] at h
      clear he
      go_wp2_with fail
      go_end0
      exact ⟨rfl, h⟩
end
end Go.Proofs.YtihmkkjmnbehbaaGreat.Ma
