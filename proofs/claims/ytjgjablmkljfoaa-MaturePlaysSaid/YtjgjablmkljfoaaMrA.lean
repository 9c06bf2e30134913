/- The reference's space of the laws of mature as parts of memory. No condition. -/
import Derived.Test.YtjgjablmkljfoaaMatM
import Derived.Test.YtjgjablmkljfoaaKRow
set_option linter.unusedVariables false
set_option linter.unusedSimpArgs false
namespace Go.Proofs.Ytjgjablmkljfoaa.Mr
open Go.RowKit Go.Proofs.Ytjgjablmkljfoaa.W Go.Proofs.Ytjgjablmkljfoaa.Cl Go.Proofs.Ytjgjablmkljfoaa.Ma
/-- A cell of the reference's list. -/
structure Ce where
  a : Int
  n : Int
  u : Bool
  g : Bool
abbrev ccell (c : Ce) : List Value := [.int .i64 c.a, .int .i64 c.n, .bool c.u, .bool c.g]
def ccs (l : List Ce) : List Value := l.flatMap ccell
theorem ccs_len (l : List Ce) : (ccs l).length = l.length * 4 := by
  induction l with
  | nil => rfl
  | cons p l ih => simp only [ccs, List.flatMap_cons, List.length_append] at ih ⊢; rw [ih]; simp [ccell]; omega
theorem ccs_get {l : List Ce} {i : Nat} {p : Ce} (h : l[i]? = some p) {j : Nat} (hj : j < 4) : (ccs l)[i * 4 + j]? = (ccell p)[j]? := by
  induction l generalizing i with
  | nil => simp at h
  | cons q l ih =>
    cases i with
    | zero =>
      simp at h
      subst h
      simp only [ccs, List.flatMap_cons, Nat.zero_mul, Nat.zero_add]
      rw [List.getElem?_append_left (by simp [ccell]; omega)]
    | succ i =>
      simp at h
      simp only [ccs, List.flatMap_cons]
      rw [List.getElem?_append_right (by simp [ccell]; omega)]
      have := ih h
      simp only [ccs] at this
      rw [← this]
      congr 1
      simp [ccell]; omega
theorem ccs_set {l : List Ce} {i : Nat} {p q : Ce} (h : l[i]? = some p) {j : Nat} (hj : j < 4) {v : Value} (hq : (ccell p).set j v = ccell q) : (ccs l).set (i * 4 + j) v = ccs (l.set i q) := by
  induction l generalizing i with
  | nil => simp at h
  | cons r l ih =>
    cases i with
    | zero =>
      simp at h
      subst h
      simp only [ccs, List.flatMap_cons, Nat.zero_mul, Nat.zero_add, List.set_cons_zero]
      rw [List.set_append_left _ _ (by simp [ccell]; omega), hq]
    | succ i =>
      simp at h
      simp only [ccs, List.flatMap_cons, List.set_cons_succ]
      rw [List.set_append_right _ _ (by simp [ccell]; omega)]
      have := ih h
      simp only [ccs] at this
      rw [← this]
      congr 2
      simp [ccell]; omega
theorem ccs_app (l : List Ce) (c : Ce) : ccs (l ++ [c]) = ccs l ++ ccell c := by simp [ccs]
/-- The reference's space. -/
structure RS where
  f : Int
  p : Nat
  w : Int
  cs : List Ce
  pd : List Bool
/-- A cell lies within the pages. -/
def RS.cok (s : RS) (c : Ce) : Prop := s.f ≤ c.a ∧ 1 ≤ c.n ∧ c.a + c.n ≤ s.f + s.p * s.w
structure RS.ok (s : RS) : Prop where
  f0 : 0 ≤ s.f
  f1 : s.f ≤ 1048576
  p1 : s.p ≤ 64
  w0 : 1 ≤ s.w
  w1 : s.w ≤ 256
  pd : s.pd.length = s.p
  len : s.cs.length ≤ 20000
  cs : ∀ c ∈ s.cs, s.cok c
theorem RS.ok.pw {s : RS} (h : s.ok) : 0 ≤ (s.p : Int) * s.w ∧ (s.p : Int) * s.w ≤ 16384 := by
  have h1 := h.p1
  have h2 := h.w0
  have h3 := h.w1
  refine ⟨Int.mul_nonneg (by omega) (by omega), ?_⟩
  have : (s.p : Int) * s.w ≤ 64 * 256 := Int.mul_le_mul (by omega) h3 (by omega) (by omega)
  omega
theorem RS.ok.cell {s : RS} (h : s.ok) {c : Ce} (hc : c ∈ s.cs) : 0 ≤ c.a ∧ s.f ≤ c.a ∧ 1 ≤ c.n ∧ c.a + c.n ≤ 2000000 := by
  have h1 := h.cs c hc
  have h2 := h.pw
  have h3 := h.f0
  have h4 := h.f1
  unfold RS.cok at h1
  omega
abbrev scr (g : Nat) (A : Option Addr) (c : Nat) (s : RS) : Array Value := #[.int .i64 s.f, .int .i64 (s.p : Int), .int .i64 s.w, .slice A s.cs.length c, .slice (some ⟨g, 0, none⟩) s.p s.p]
def rparts (b g : Nat) (A : Option Addr) (c : Nat) (s : RS) : List Pr := [blkP b 45 (scr g A c s), rowK 63 4 (.slice A s.cs.length c) s.cs.length (ccs s.cs), blkP g 4 (bools s.pd)]
section
variable {W w : World} {oo : Nat → Prop} {b g : Nat} {A : Option Addr} {c : Nat} {s : RS}
theorem r_b (h : SepO W oo w (rparts b g A c s)) : Blk w b 45 (scr g A c s) := h.blk 0 rfl
theorem r_pd (h : SepO W oo w (rparts b g A c s)) : Blk w g 4 (bools s.pd) := h.blk 2 rfl
theorem r_c (h : SepO W oo w (rparts b g A c s)) {i : Nat} {p : Ce} (hp : s.cs[i]? = some p) : ∃ G, A = some ⟨G, 0, none⟩ ∧ w.cell? ⟨G, i * 4, none⟩ = some (.int .i64 p.a) ∧ w.cell? ⟨G, i * 4 + 1, none⟩ = some (.int .i64 p.n) ∧ w.cell? ⟨G, i * 4 + 2, none⟩ = some (.bool p.u) ∧ w.cell? ⟨G, i * 4 + 3, none⟩ = some (.bool p.g) ∧ G < w.heap.size ∧ ∀ j, w.frozen? ⟨G, j, none⟩ = false := by
  have hi := (List.getElem?_eq_some_iff.1 hp).1
  obtain ⟨A', c', e, _, _, _, h6⟩ := h.rowk 1 rfl
  cases e
  obtain ⟨G, rfl, h7, h8, h9⟩ := h6 (by omega)
  have e : ∀ j, j < 4 → w.cell? ⟨G, i * 4 + j, none⟩ = (ccell p)[j]? := fun j hj => by
    rw [h8 _ (by omega)]; exact ccs_get hp hj
  exact ⟨G, rfl, e 0 (by omega), e 1 (by omega), e 2 (by omega), e 3 (by omega), h7.2, h9⟩
theorem r_cap (h : SepO W oo w (rparts b g A c s)) : s.cs.length ≤ c ∧ c ≤ 9223372036854775807 := by
  obtain ⟨A', c', e, h2, h3, _⟩ := h.rowk 1 rfl
  cases e
  exact ⟨h2, h3⟩
/-- A field of a cell is stored. -/
theorem r_set {G : Nat} (h : SepO W oo w (rparts b g (some ⟨G, 0, none⟩) c s)) {i : Nat} {p q : Ce} (hp : s.cs[i]? = some p) {j : Nat} (hj : j < 4) {u : Value} (hq : (ccell p).set j u = ccell q) :
    SepO W oo (w.setCell ⟨G, i * 4 + j, none⟩ u) (rparts b g (some ⟨G, 0, none⟩) c { s with cs := s.cs.set i q }) := by
  obtain ⟨o, ⟨h1, h2⟩, _, hup⟩ := h.open_ 1 rfl
  have hi := (List.getElem?_eq_some_iff.1 hp).1
  have e2 := hup (w.setCell ⟨G, i * 4 + j, none⟩ u) (rowK 63 4 (.slice (some ⟨G, 0, none⟩) s.cs.length c) s.cs.length (ccs (s.cs.set i q))) ⟨?_, fun g hg => .inl (h2 g hg)⟩ ((Keep.refl o w).set_ (p := ⟨G, i * 4 + j, none⟩) (.inl (h2 G rfl)) u)
  · have e : rparts b g (some ⟨G, 0, none⟩) c { s with cs := s.cs.set i q } = (rparts b g (some ⟨G, 0, none⟩) c s).set 1 (rowK 63 4 (.slice (some ⟨G, 0, none⟩) s.cs.length c) s.cs.length (ccs (s.cs.set i q))) := by
      unfold rparts scr
      simp
    rw [e]
    exact e2
  · have h3 := h1.stored (i * 4 + j) u
    rw [ccs_set hp hj hq] at h3
    exact h3.1
def ofI (s : RS) (x : Int) : Int := (x - s.f) / s.w
theorem of_b {s : RS} (hs : s.ok) {x : Int} (hx : s.f ≤ x) : 0 ≤ ofI s x ∧ ofI s x ≤ x := by
  have h0 := hs.f0
  have h2 := hs.w0
  refine ⟨Int.ediv_nonneg (by omega) (by omega), ?_⟩
  have := Int.ediv_le_self s.w (by omega : 0 ≤ x - s.f)
  unfold ofI
  omega
theorem of_calls (x : Int) (w : World) (hs : s.ok) (c0 : w.cell? ⟨b, 0, none⟩ = some (.int .i64 s.f)) (c2 : w.cell? ⟨b, 2, none⟩ = some (.int .i64 s.w)) (hx : s.f ≤ x) (hx9 : x ≤ 9223372036854775807) : Calls Try.prog 39 #[pt b, .int .i64 x] w fun e w' => e = .returned (.int .i64 (ofI s x)) ∧ ∃ n, w' = w.drewN n := by
  have hq : (x - s.f).tdiv s.w = ofI s x := by rw [Int.tdiv_eq_ediv_of_nonneg (by omega)]; rfl
  obtain ⟨b0, b1⟩ := of_b hs hx
  have h0 := hs.f0
  have h1 := hs.f1
  have h2 := hs.w0
  have h3 := hs.w1
  clear hs
  go_enter Try.func39, Try.ntmps39
  go_wp2
  go_quiet (fail)
  go_wp2
  go_ret
  exact ⟨rfl, nq, rfl⟩
theorem of_sep (x : Int) (h : SepO W oo w (rparts b g A c s)) (hs : s.ok) (hx : s.f ≤ x) (hx9 : x ≤ 9223372036854775807) : Calls Try.prog 39 #[pt b, .int .i64 x] w fun e w' => e = .returned (.int .i64 (ofI s x)) ∧ ∃ n, w' = w.drewN n := by
  have c0 := (r_b h).cell 0
  have c2 := (r_b h).cell 2
  simp at c0 c2
  exact of_calls x w hs c0 c2 hx hx9
def freeB (s : RS) (n : Int) : Bool := s.cs.all fun c => !(decide (ofI s c.a ≤ n) && decide (n ≤ ofI s (c.a + c.n - 1)))
set_option maxHeartbeats 1000000 in
theorem free_in (n : Int) (h : SepO W oo w (rparts b g A c s)) (hs : s.ok) : Calls Try.prog 38 #[pt b, .int .i64 n] w fun e w' => e = .returned (.bool (freeB s n)) ∧ SepO W oo w' (rparts b g A c s) := by
  have c3 := (r_b h).cell 3
  simp at c3
  have hl := hs.len
  obtain ⟨V, hV⟩ : ∃ V, freeB s n = V := ⟨_, rfl⟩
  rw [hV]
  have HV := Lib.hid hV
  have HS := Lib.hid h
  clear hV h
  go_enter Try.func38, Try.ntmps38
  go_wp2_with fail
  go_loopg [5, 6] s.cs.length (fun gk z y wr => ∃ (j : Nat), j + gk = s.cs.length ∧ z = .int .i64 j ∧ (s.cs.drop j).all (fun c => !(decide (ofI s c.a ≤ n) && decide (n ≤ ofI s (c.a + c.n - 1)))) = V ∧ SepO W oo wr (rparts b g A c s))
  case atStart => exact ⟨0, by omega, rfl, by simpa [freeB] using HV.out, HS.out⟩
  case round =>
    clear HV c3 HS
    obtain ⟨j, hj, rfl, hv, h⟩ := hrel
    have HJ := Lib.hid hj
    have hjl : j ≤ s.cs.length := by omega
    have c3 := (r_b h).cell 3
    simp at c3
    clear hj
    by_cases hlt : j < s.cs.length
    · obtain ⟨p, hp⟩ : ∃ p, s.cs[j] = p := ⟨_, rfl⟩
      have hp' : s.cs[j]? = some p := by rw [List.getElem?_eq_getElem hlt, hp]
      obtain ⟨G, rfl, y0, y1, y2, y3, hG, -⟩ := r_c h hp'
      obtain ⟨q0, q1, q2, q3⟩ := hs.cell (List.mem_of_getElem? hp')
      rw [List.drop_eq_getElem_cons hlt, List.all_cons, hp] at hv
      have HV := Lib.hid hv
      have H := Lib.hid h
      clear h hv hp hp'
      go_wp2_with fail
      refine (of_sep p.a (H.out.alloc _) hs q1 (by omega)).mono ?_
      rintro e w2 ⟨rfl, n1, rfl⟩
      have hv := HV.out
      by_cases d1 : ofI s p.a ≤ n
      · rw [decide_eq_true d1] at hv
        have d1' : decide (ofI s p.a ≤ n) = true := decide_eq_true d1
        go_wp2_with fail
        refine (of_sep (p.a + p.n - 1) ((H.out.alloc _).drewN n1) hs (by omega) (by omega)).mono ?_
        rintro e w3 ⟨rfl, n2, rfl⟩
        have H3 := Lib.hid ((H.out.alloc (.cells #[.int .i64 p.a, .int .i64 p.n, .bool p.u, .bool p.g] 63)).drewN (n1 + n2))
        by_cases d2 : n ≤ ofI s (p.a + p.n - 1)
        · rw [decide_eq_true d2] at hv
          simp at hv
          subst hv
          clear HV H
          go_wp2_with fail
          go_ret
          exact ⟨rfl, H3.out⟩
        · rw [decide_eq_false d2] at hv
          simp only [Bool.and_false, Bool.not_false, Bool.true_and] at hv
          have HV2 := Lib.hid hv
          clear HV hv H
          go_wp2_with fail
          go_roundg (gk - 1)
          case measure => have := HJ.out; omega
          case rel => exact ⟨j + 1, by have := HJ.out; omega, by go_num, HV2.out, H3.out⟩
      · rw [decide_eq_false d1] at hv
        simp only [Bool.false_and, Bool.not_false, Bool.true_and] at hv
        have H3 := Lib.hid ((H.out.alloc (.cells #[.int .i64 p.a, .int .i64 p.n, .bool p.u, .bool p.g] 63)).drewN n1)
        have HV2 := Lib.hid hv
        clear HV hv H
        go_wp2_with fail
        go_roundg (gk - 1)
        case measure => have := HJ.out; omega
        case rel => exact ⟨j + 1, by have := HJ.out; omega, by go_num, HV2.out, H3.out⟩
    · rw [List.drop_of_length_le (by omega)] at hv
      simp only [List.all_nil] at hv
      subst hv
      have H := Lib.hid h
      clear h
      go_wp2_with fail
      go_ret
      exact ⟨rfl, H.out⟩
def fnd (x : Int) : List Ce → Nat → Int
  | [], _ => -1
  | c :: r, i => if c.a = x ∧ c.u = true then i else fnd x r (i + 1)
set_option maxHeartbeats 1000000 in
theorem find_in (x : Int) (h : SepO W oo w (rparts b g A c s)) (hs : s.ok) : Calls Try.prog 40 #[pt b, .int .i64 x] w fun e w' => e = .returned (.int .i64 (fnd x s.cs 0)) ∧ w' = w := by
  have c3 := (r_b h).cell 3
  simp at c3
  have hl := hs.len
  obtain ⟨V, hV⟩ : ∃ V, fnd x s.cs 0 = V := ⟨_, rfl⟩
  rw [hV]
  have HV := Lib.hid hV
  have H := Lib.hid h
  clear hV h
  go_enter Try.func40, Try.ntmps40
  go_wp2_with fail
  go_loopg [5] s.cs.length (fun gk z wr => ∃ (j : Nat), j + gk = s.cs.length ∧ z = .int .i64 j ∧ fnd x (s.cs.drop j) j = V ∧ wr = w)
  case atStart => exact ⟨0, by omega, rfl, HV.out, rfl⟩
  case round =>
    clear HV
    obtain ⟨j, hj, rfl, hv, rfl⟩ := hrel
    have HJ := Lib.hid hj
    have hjl : j ≤ s.cs.length := by omega
    clear hj
    by_cases hlt : j < s.cs.length
    · obtain ⟨p, hp⟩ : ∃ p, s.cs[j] = p := ⟨_, rfl⟩
      have hp' : s.cs[j]? = some p := by rw [List.getElem?_eq_getElem hlt, hp]
      obtain ⟨G, rfl, y0, y1, y2, y3, hG, -⟩ := r_c H.out hp'
      obtain ⟨q0, q1, q2, q3⟩ := hs.cell (List.mem_of_getElem? hp')
      rw [List.drop_eq_getElem_cons hlt, hp] at hv
      unfold fnd at hv
      clear hp hp'
      by_cases d1 : p.a = x
      · subst d1
        cases hu : p.u
        · rw [hu] at y2 hv
          rw [if_neg (by simp)] at hv
          have HV := Lib.hid hv
          clear hv
          go_wp2_with fail
          go_roundg (gk - 1)
          case measure => have := HJ.out; omega
          case rel => exact ⟨j + 1, by have := HJ.out; omega, by go_num, HV.out, rfl⟩
        · rw [hu] at y2 hv
          rw [if_pos ⟨rfl, rfl⟩] at hv
          subst hv
          go_wp2_with fail
          go_ret
          exact ⟨rfl, rfl⟩
      · rw [if_neg (fun h => d1 h.1)] at hv
        have d1' : (p.a == x) = false := beq_false_of_ne d1
        have HV := Lib.hid hv
        clear hv d1
        go_wp2_with fail
        go_roundg (gk - 1)
        case measure => have := HJ.out; omega
        case rel => exact ⟨j + 1, by have := HJ.out; omega, by go_num, HV.out, rfl⟩
    · rw [List.drop_of_length_le (by omega)] at hv
      unfold fnd at hv
      subst hv
      go_wp2_with fail
      go_ret
      exact ⟨rfl, rfl⟩
theorem fnd_b {x : Int} : ∀ {l : List Ce} {i : Nat}, fnd x l i = -1 ∧ (∀ c ∈ l, ¬ (c.a = x ∧ c.u = true)) ∨ ∃ k c, fnd x l i = ((i + k : Nat) : Int) ∧ l[k]? = some c ∧ c.a = x ∧ c.u = true := by
  intro l
  induction l with
  | nil => intro i; exact .inl ⟨rfl, by simp⟩
  | cons c r ih =>
    intro i
    unfold fnd
    by_cases h : c.a = x ∧ c.u = true
    · rw [if_pos h]; exact .inr ⟨0, c, rfl, rfl, h⟩
    · rw [if_neg h]
      rcases ih (i := i + 1) with ⟨h1, h2⟩ | ⟨k, c', h1, h2, h3⟩
      · refine .inl ⟨h1, fun d hd => ?_⟩
        rcases List.mem_cons.1 hd with rfl | hd
        · exact h
        · exact h2 d hd
      · exact .inr ⟨k + 1, c', by rw [h1]; congr 1; omega, by simpa using h2, h3⟩
def fsz (x : Int) (s : RS) : Int := if 0 ≤ fnd x s.cs 0 then (match s.cs[(fnd x s.cs 0).toNat]? with | some c => c.n | none => 0) else 0
def fhas (x : Int) (s : RS) : Bool := decide (0 ≤ fnd x s.cs 0)
theorem Size_in (x : Int) (h : SepO W oo w (rparts b g A c s)) (hs : s.ok) : Calls Try.prog 42 #[pt b, .int .i64 x] w fun e w' => e = .returned (.tuple #[.int .i64 (fsz x s), .bool (fhas x s)]) ∧ w' = w := by
  have c3 := (r_b h).cell 3
  simp at c3
  have hl := hs.len
  have H := Lib.hid h
  obtain ⟨V1, hV1⟩ : ∃ V, fsz x s = V := ⟨_, rfl⟩
  obtain ⟨V2, hV2⟩ : ∃ V, fhas x s = V := ⟨_, rfl⟩
  rw [hV1, hV2]
  have E1 := Lib.hid hV1
  have E2 := Lib.hid hV2
  clear h hV1 hV2
  go_enter Try.func42, Try.ntmps42
  go_wp2_with fail
  refine (find_in x H.out hs).mono ?_
  rintro e w1 ⟨rfl, rfl⟩
  rcases fnd_b (x := x) (l := s.cs) (i := 0) with ⟨h1, h2⟩ | ⟨k, p, h1, h2, h3⟩
  · have e1 : fsz x s = 0 := by unfold fsz; rw [h1]; rfl
    have e2 : fhas x s = false := by unfold fhas; rw [h1]; rfl
    obtain rfl : V1 = _ := E1.out.symm.trans e1
    obtain rfl : V2 = _ := E2.out.symm.trans e2
    rw [h1]
    clear h1 h2 e1 e2 E1 E2
    go_wp2_with fail
    go_ret2
    exact ⟨rfl, rfl⟩
  · rw [Nat.zero_add] at h1
    have e1 : fsz x s = p.n := by unfold fsz; rw [h1, if_pos (by omega), Int.toNat_natCast, h2]
    have e2 : fhas x s = true := by unfold fhas; rw [h1]; simp
    obtain rfl : V1 = _ := E1.out.symm.trans e1
    obtain rfl : V2 = _ := E2.out.symm.trans e2
    rw [h1]
    obtain ⟨G, rfl, y0, y1, y2, y3, hG, -⟩ := r_c H.out h2
    have hk := (List.getElem?_eq_some_iff.1 h2).1
    clear h1 h2 e1 e2 E1 E2
    go_wp2_with fail
    go_ret2
    exact ⟨rfl, rfl⟩
end
end Go.Proofs.Ytjgjablmkljfoaa.Mr
