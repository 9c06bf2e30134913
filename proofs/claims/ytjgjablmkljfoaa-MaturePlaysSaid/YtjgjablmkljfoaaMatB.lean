/- Contracts of package mature, what asks of pages. No condition. -/
import Derived.Test.YtjgjablmkljfoaaMatA
set_option linter.unusedVariables false
set_option linter.unusedSimpArgs false
namespace Go.Proofs.Ytjgjablmkljfoaa.Ma
open Go.RowKit Go.Proofs.Ytjgjablmkljfoaa.W Go.Proofs.Ytjgjablmkljfoaa.Cl

def freeN (l : List Pg) : Nat := l.countP (fun p => p.kind == 0)
def pdP (p : Pg) : Pg := { p with pend := p.kind == 1 || p.kind == 2 }
def pd (p : Pg × Nat) : Pg × Nat := (pdP p.1, p.2)
def pn : List Pg → Option Nat
  | [] => none
  | p :: r => if p.pend then some 0 else (pn r).map (· + 1)
def doneB (l : List Pg) (k : Int) : Bool := if 0 ≤ k then (match l[k.toNat]? with | some p => p.pend | none => false) else false
def unP (p : Pg) : Pg := { p with pend := false }
def un (p : Pg × Nat) : Pg × Nat := (unP p.1, p.2)
theorem set_mid {α : Type} {l : List α} {g : α → α} {j : Nat} {p : α} (h : l[j]? = some p) : ((l.take j).map g ++ l.drop j)[j]? = some p ∧ ((l.take j).map g ++ l.drop j).set j (g p) = (l.take (j + 1)).map g ++ l.drop (j + 1) := by
  have hj := (List.getElem?_eq_some_iff.1 h).1
  have hlen : ((l.take j).map g).length = j := by simp; omega
  have hd : l.drop j = p :: l.drop (j + 1) := by
    rw [List.drop_eq_getElem_cons hj]
    have : l[j] = p := by rw [List.getElem?_eq_getElem hj] at h; simpa using h
    rw [this]
  have ht : l.take (j + 1) = l.take j ++ [p] := by
    rw [List.take_add_one, h]; rfl
  constructor
  · rw [List.getElem?_append_right (by omega), hlen, Nat.sub_self, hd]; rfl
  · rw [List.set_append_right _ _ (by omega), hlen, Nat.sub_self, hd, List.set_cons_zero, ht]; simp
section
variable {W w : World} {oo : Nat → Prop} {b L : Nat} {f n : Int} {lg : List (Pg × Nat)}
theorem Free_in (h : SepO W oo w (mparts b L f n lg)) (m : MW f n lg) : Calls Try.prog 14 #[pt b] w fun e w' => e = .returned (.int .i64 (freeN (lg.map (·.1)))) ∧ w = w' := by
  have c2 := (m_blk h).cell 2
  simp at c2
  have hpg : ∀ j p, lg[j]? = some p → w.cell? ⟨L, j * 4, none⟩ = some (.int .i64 p.1.kind) := fun j p hp => (m_page h hp).1
  have hl := m.len
  obtain ⟨V, hV⟩ : ∃ V, freeN (lg.map (·.1)) = V := ⟨_, rfl⟩
  rw [hV]
  have HV := Lib.hid hV
  have HP := Lib.hid hpg
  clear hV hpg h m
  go_enter Try.func14, Try.ntmps14
  go_wp2_with fail
  go_loopg [3, 12] lg.length (fun gk o z wr => ∃ (j : Nat) (r : Nat), j + gk = lg.length ∧ z = .int .i64 j ∧ o = .int .i64 r ∧ r ≤ j ∧ r + freeN ((lg.map (·.1)).drop j) = V ∧ wr = w)
  case atStart => exact ⟨0, 0, by omega, rfl, rfl, by omega, by simpa using HV.out, rfl⟩
  case round =>
    obtain ⟨j, r, hj, rfl, rfl, r1, hv, rfl⟩ := hrel
    have HJ := Lib.hid hj
    have HV' := Lib.hid hv
    have hjl : j ≤ lg.length := by omega
    clear hj hv HV
    by_cases hlt : j < lg.length
    · obtain ⟨p, hp⟩ : ∃ p, lg[j]? = some p := ⟨lg[j], List.getElem?_eq_getElem hlt⟩
      have ei := HP.out j p hp
      have hd : (lg.map (·.1)).drop j = p.1 :: (lg.map (·.1)).drop (j + 1) := by
        rw [List.drop_eq_getElem_cons (by simpa using hlt)]
        have : lg[j] = p := by rw [List.getElem?_eq_getElem hlt] at hp; simpa using hp
        simp [this]
      have hv := HV'.out
      rw [hd] at hv
      unfold freeN at hv
      rw [List.countP_cons] at hv
      by_cases hk : p.1.kind = 0
      · rw [hk] at ei
        simp only [hk, beq_self_eq_true, if_true] at hv
        have HD := Lib.hid hv
        clear hd hk hp hv
        go_wp2_with fail
        go_roundg (gk - 1)
        case measure => have := HJ.out; omega
        case rel => exact ⟨j + 1, r + 1, by have := HJ.out; omega, by go_num, by go_num, by omega, by have := HD.out; unfold freeN; omega, rfl⟩
      · have hb : (p.1.kind == 0) = false := by simpa using hk
        simp only [hb, Bool.false_eq_true, if_false] at hv
        have HD := Lib.hid hv
        clear hd hk hp hv
        go_wp2_with fail
        go_roundg (gk - 1)
        case measure => have := HJ.out; omega
        case rel => exact ⟨j + 1, r, by have := HJ.out; omega, by go_num, rfl, by omega, by have := HD.out; unfold freeN; omega, rfl⟩
    · have hv : r = V := by
        have := HV'.out
        rw [List.drop_of_length_le (by simpa using Nat.le_of_not_lt hlt)] at this
        simpa [freeN] using this
      subst hv
      go_wp2_with fail
      go_ret
      exact ⟨rfl, rfl⟩

theorem Pending_in (h : SepO W oo w (mparts b L f n lg)) (m : MW f n lg) : Calls Try.prog 17 #[pt b] w fun e w' => e = .returned (.tuple #[.int .i64 (match pn (lg.map (·.1)) with | some k => (k : Int) | none => 0), .bool (pn (lg.map (·.1))).isSome]) ∧ w = w' := by
  have c2 := (m_blk h).cell 2
  simp at c2
  have hpg : ∀ j p, lg[j]? = some p → w.cell? ⟨L, j * 4 + 3, none⟩ = some (.bool p.1.pend) := fun j p hp => (m_page h hp).2.2.2
  have hl := m.len
  obtain ⟨V, hV⟩ : ∃ V, pn (lg.map (·.1)) = V := ⟨_, rfl⟩
  rw [hV]
  have HV := Lib.hid hV
  have HP := Lib.hid hpg
  clear hV hpg h m
  go_enter Try.func17, Try.ntmps17
  go_wp2_with fail
  go_loopg [12] lg.length (fun gk z wr => ∃ (j : Nat), j + gk = lg.length ∧ z = .int .i64 j ∧ (pn ((lg.map (·.1)).drop j)).map (· + j) = V ∧ wr = w)
  case atStart => exact ⟨0, by omega, rfl, by simp [HV.out], rfl⟩
  case round =>
    obtain ⟨j, hj, rfl, hv, rfl⟩ := hrel
    have HJ := Lib.hid hj
    have HV' := Lib.hid hv
    have hjl : j ≤ lg.length := by omega
    clear hj hv HV
    by_cases hlt : j < lg.length
    · obtain ⟨p, hp⟩ : ∃ p, lg[j]? = some p := ⟨lg[j], List.getElem?_eq_getElem hlt⟩
      have ei := HP.out j p hp
      have hd : (lg.map (·.1)).drop j = p.1 :: (lg.map (·.1)).drop (j + 1) := by
        rw [List.drop_eq_getElem_cons (by simpa using hlt)]
        have : lg[j] = p := by rw [List.getElem?_eq_getElem hlt] at hp; simpa using hp
        simp [this]
      have hv := HV'.out
      rw [hd] at hv
      simp only [pn] at hv
      cases hk : p.1.pend
      · rw [hk] at ei hv
        simp only [Bool.false_eq_true, if_false, Option.map_map] at hv
        have hv2 : (pn ((lg.map (·.1)).drop (j + 1))).map (· + (j + 1)) = V := by rw [← hv]; congr 1; funext x; simp; omega
        have HD := Lib.hid hv2
        clear hd hk hp hv hv2
        go_wp2_with fail
        go_roundg (gk - 1)
        case measure => have := HJ.out; omega
        case rel => exact ⟨j + 1, by have := HJ.out; omega, by go_num, HD.out, rfl⟩
      · rw [hk] at ei hv
        simp at hv
        subst hv
        clear hd hk hp
        go_wp2_with fail
        go_ret2
        exact ⟨rfl, rfl⟩
    · have hv : V = none := by rw [← HV'.out, List.drop_of_length_le (by simpa using Nat.le_of_not_lt hlt)]; rfl
      subst hv
      go_wp2_with fail
      go_ret2
      exact ⟨rfl, rfl⟩

theorem Done_in (k : Int) (h : SepO W oo w (mparts b L f n lg)) (m : MW f n lg) : Calls Try.prog 18 #[pt b, .int .i64 k] w fun e w' =>
    e = .returned (.bool (doneB (lg.map (·.1)) k)) ∧ SepO W oo w' (mparts b L f n (if doneB (lg.map (·.1)) k then lg.modify k.toNat un else lg)) := by
  have c2 := (m_blk h).cell 2
  simp at c2
  have hl := m.len
  rcases (by omega : k < 0 ∨ (0 ≤ k ∧ (lg.length : Int) ≤ k) ∨ (0 ≤ k ∧ k < lg.length)) with hx | ⟨hx, hy⟩ | ⟨hx, hy⟩
  · have hd : doneB (lg.map (·.1)) k = false := if_neg (by omega)
    rw [hd, if_neg (by simp)]
    clear hd m
    go_enter Try.func18, Try.ntmps18
    go_wp2_with fail
    go_ret
    exact ⟨rfl, h⟩
  · have hd : doneB (lg.map (·.1)) k = false := by unfold doneB; rw [if_pos hx, List.getElem?_eq_none (by simp; omega)]
    rw [hd, if_neg (by simp)]
    have e1 : decide (k < 0) = false := by simpa using hx
    clear hd m
    go_enter Try.func18, Try.ntmps18
    go_wp2_with fail
    go_ret
    exact ⟨rfl, h⟩
  · obtain ⟨j, rfl⟩ : ∃ j : Nat, k = (j : Int) := ⟨k.toNat, by omega⟩
    have hjl : j < lg.length := by omega
    obtain ⟨p, hp⟩ : ∃ p, lg[j]? = some p := ⟨lg[j], List.getElem?_eq_getElem hjl⟩
    have ei := (m_page h hp).2.2.2
    have hd : doneB (lg.map (·.1)) (j : Int) = p.1.pend := by unfold doneB; rw [if_pos hx, Int.toNat_natCast, List.getElem?_map, hp]; rfl
    rw [hd, Int.toNat_natCast]
    have hme : lg.modify j un = lg.set j (un p) := by
      apply List.ext_getElem?
      intro i
      rw [List.getElem?_modify, List.getElem?_set]
      by_cases hij : j = i
      · subst hij; rw [hp, if_pos rfl, if_pos hjl]; simp
      · simp [hij]
    rw [hme]
    have hfi := m_field (q := un p) h hp (j := 3) (by omega) (v := .bool false) (by simp [pcells, un, unP, usl]) (by simp [upart, un, unP])
    have zi := (m_list h).frozen (j * 4 + 3)
    have e1 : decide ((j : Int) < 0) = false := by simp
    have HF := Lib.hid hfi
    clear hd hfi hme m
    cases hv : p.1.pend
    · rw [hv] at ei
      rw [if_neg (by simp)]
      clear hv hp
      go_enter Try.func18, Try.ntmps18
      go_wp2_with fail
      go_ret
      exact ⟨rfl, h⟩
    · rw [hv] at ei
      rw [if_pos rfl]
      clear hv hp h
      go_enter Try.func18, Try.ntmps18
      go_wp2_with fail
      go_ret
      exact ⟨rfl, HF.out⟩

theorem Page_in (k : Int) (h : SepO W oo w (mparts b L f n lg)) (m : MW f n lg) : Calls Try.prog 25 #[pt b, .int .i64 k] w fun e w' =>
    e = .returned (.tuple #[.int .i64 (if 0 ≤ k ∧ k < lg.length then f + k * n else 0), .int .i64 (if 0 ≤ k ∧ k < lg.length then f + k * n + n else 0)]) ∧ ∃ j, w' = w.drewN j := by
  have c2 := (m_blk h).cell 2
  have c1 := (m_blk h).cell 1
  simp at c2 c1
  have hl := m.len
  rcases (by omega : k < 0 ∨ (0 ≤ k ∧ (lg.length : Int) ≤ k) ∨ (0 ≤ k ∧ k < lg.length)) with hx | ⟨hx, hy⟩ | ⟨hx, hy⟩
  · rw [if_neg (by omega), if_neg (by omega)]
    clear m
    go_enter Try.func25, Try.ntmps25
    go_wp2_with fail
    go_ret2
    exact ⟨rfl, 0, rfl⟩
  · rw [if_neg (by omega), if_neg (by omega)]
    have e1 : decide (k < 0) = false := by simpa using hx
    clear m
    go_enter Try.func25, Try.ntmps25
    go_wp2_with fail
    go_ret2
    exact ⟨rfl, 0, rfl⟩
  · rw [if_pos ⟨hx, hy⟩, if_pos ⟨hx, hy⟩]
    obtain ⟨j, rfl⟩ : ∃ j : Nat, k = (j : Int) := ⟨k.toNat, by omega⟩
    have hb : ∀ q, Calls Try.prog 31 #[pt b, .int .i64 (j : Int)] (w.drewN q) fun e w' => e = .returned (.int .i64 (f + j * n)) ∧ ∃ r, w' = (w.drewN q).drewN r := fun q => begin_in j (h.drewN q) m (by omega)
    have hx0 : 0 ≤ (j : Int) * n := Int.mul_nonneg (by omega) (by have := m.n0; omega)
    have hx1 : (j : Int) * n ≤ 64 * 256 := by
      have h1 := Int.mul_le_mul_of_nonneg_right (by omega : (j : Int) ≤ 64) (by have := m.n0; omega : 0 ≤ n)
      have := m.n1
      omega
    have f0 := m.f0
    have f1 := m.f1
    have n0 := m.n0
    have n1 := m.n1
    obtain ⟨x, hxx⟩ : ∃ x, f + (j : Int) * n = x := ⟨_, rfl⟩
    have hxb : 0 ≤ x ∧ x ≤ 2000000 := by omega
    obtain ⟨hxb0, hxb1⟩ := hxb
    simp only [hxx] at hb
    rw [hxx]
    have e1 : decide ((j : Int) < 0) = false := by simp
    have e2 := IntWalk.i64_in (x + n) (by omega)
    have HB := Lib.hid hb
    clear hb hxx hx0 hx1 m h
    go_enter Try.func25, Try.ntmps25
    go_wp2_with fail
    go_quiet ((go_at_call 31; exact Calls.quiet_of (HB.out _)))
    go_wp2_with fail
    go_ret2
    exact ⟨rfl, _, rfl⟩

theorem Pend_in (h : SepO W oo w (mparts b L f n lg)) (m : MW f n lg) : Calls Try.prog 16 #[pt b] w fun e w' => e = .returned (.tuple #[]) ∧ SepO W oo w' (mparts b L f n (lg.map pd)) := by
  have c2 := (m_blk h).cell 2
  simp at c2
  have hl := m.len
  have HH := Lib.hid h
  clear m h
  go_enter Try.func16, Try.ntmps16
  go_wp2_with fail
  go_loopg [10] lg.length (fun gk z wr => ∃ (j : Nat), j + gk = lg.length ∧ z = .int .i64 j ∧ SepO W oo wr (mparts b L f n ((lg.take j).map pd ++ lg.drop j)))
  case atStart => exact ⟨0, by omega, rfl, by simpa using HH.out⟩
  case round =>
    clear c2
    obtain ⟨j, hj, rfl, h⟩ := hrel
    have HJ := Lib.hid hj
    have hjl : j ≤ lg.length := by omega
    have hlen : ((lg.take j).map pd ++ lg.drop j).length = lg.length := by simp; omega
    have c2 := (m_blk h).cell 2
    rw [hlen] at c2
    simp at c2
    clear hj hlen
    by_cases hlt : j < lg.length
    · obtain ⟨p, hp⟩ : ∃ p, lg[j]? = some p := ⟨lg[j], List.getElem?_eq_getElem hlt⟩
      obtain ⟨hp1, hp2⟩ := set_mid (g := pd) hp
      have ei := (m_page h hp1).1
      have e3 := (m_page h hp1).2.2.2
      have zi := (m_list h).frozen (j * 4 + 3)
      have hfi := fun q => m_field (q := pd p) (h.drewN q) hp1 (j := 3) (by omega) (v := .bool (p.1.kind == 1 || p.1.kind == 2)) (by simp [pcells, pd, pdP, usl]) (by simp [upart, pd, pdP])
      rw [hp2] at hfi
      have HF := Lib.hid hfi
      clear hp hp1 hp2 hfi h
      generalize p.1.kind = kk at ei HF
      rcases (by omega : kk = 1 ∨ kk = 2 ∨ (kk ≠ 1 ∧ kk ≠ 2)) with rfl | rfl | ⟨h1, h2⟩
      · go_wp2_with fail
        go_region
        all_goals
          go_wp2_with fail
          go_roundg (gk - 1)
          case measure => have := HJ.out; omega
          case rel => exact ⟨j + 1, by have := HJ.out; omega, by go_num, HF.out 1⟩
      · go_wp2_with fail
        go_region
        all_goals
          go_wp2_with fail
          go_roundg (gk - 1)
          case measure => have := HJ.out; omega
          case rel => exact ⟨j + 1, by have := HJ.out; omega, by go_num, HF.out 1⟩
      · have g1 : (kk == 1) = false := by simpa using h1
        have g2 : (kk == 2) = false := by simpa using h2
        have hf := HF.out
        simp only [g1, g2, Bool.or_false] at hf
        have HF' := Lib.hid hf
        clear h1 h2 HF hf
        go_wp2_with fail
        go_region
        all_goals
          go_wp2_with fail
          go_roundg (gk - 1)
          case measure => have := HJ.out; omega
          case rel => exact ⟨j + 1, by have := HJ.out; omega, by go_num, HF'.out 1⟩
    · have he : (lg.take j).map pd ++ lg.drop j = lg.map pd := by rw [List.take_of_length_le (by omega), List.drop_of_length_le (by omega), List.append_nil]
      rw [he] at h
      clear he
      go_wp2_with fail
      go_end0
      exact ⟨rfl, h⟩
end
end Go.Proofs.Ytjgjablmkljfoaa.Ma
