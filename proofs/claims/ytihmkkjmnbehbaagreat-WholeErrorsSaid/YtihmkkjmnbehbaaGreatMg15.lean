/- Texts of the whole heap, joined: Remset RemsetSep Structs. No condition beside those that each lemma names. -/
import Derived.Test.YtihmkkjmnbehbaaGreatMg13
import Derived.Test.YtihmkkjmnbehbaaGreatMg14
import Derived.Test.YtihmkkjmnbehbaaGreatMg11
import Derived.Test.YtihmkkjmnbehbaaGreatMg00
import Derived.Deep.RegionHeld3
import Derived.Deep.RegionWith
import Derived.Deep.DeepCutAuto
import Derived.Deep.CutBlock
/- Contracts of package remset over a predicate on memory. No condition. -/
set_option linter.unusedVariables false
set_option linter.unusedSimpArgs false
namespace Go.Proofs.YtihmkkjmnbehbaaGreat.Re
open Go.RowKit Go.Proofs.YtihmkkjmnbehbaaGreat.W Go.Proofs.YtihmkkjmnbehbaaGreat.Cd Go.Proofs.YtihmkkjmnbehbaaGreat.Bf

abbrev pt (b : Nat) : Value := .pointer (some ⟨b, 0, none⟩)
def boxP (b : Nat) (n : Int) : Pr := blkP b 3 #[.int .i64 n]
/-- Marks of a space, all of them not set. -/
def Cd.none_ (f w c : Int) : Cd := ⟨f, w, c, List.replicate (Cd.num w c).toNat false⟩

set_option maxHeartbeats 2000000 in
theorem empty_calls {W w : World} {oo : Nat → Prop} {l : List Pr} (h : SepO W oo w l) (i0 i1 i2 i3 : Nat) (k0 k1 k2 k3 : Nat) (mo f n c : Int)
    (h0 : l[i0]? = some (boxP k0 mo)) (h1 : l[i1]? = some (boxP k1 f)) (h2 : l[i2]? = some (boxP k2 n)) (h3 : l[i3]? = some (boxP k3 c)) (hf : Cd.clampN f = f) (hn : Cd.clampN n = n) :
    Calls Tryz.prog 103 #[pt k0, pt k1, pt k2, pt k3] w fun e w' => ∃ b1 b2, e = .returned (.agg #[pt b1, pt b2]) ∧ SepO W oo w' (l ++ [Bfr b1 (Bf.clampN mo) []] ++ [Crd b2 (Cd.none_ f n (Cd.clamp1 c))]) := by
  have c0 := (h.blk i0 h0).cell 0
  have c1 := (h.blk i1 h1).cell 0
  have c2 := (h.blk i2 h2).cell 0
  have c3 := (h.blk i3 h3).cell 0
  simp at c0 c1 c2 c3
  go_enter Tryz.func103, Tryz.ntmps103
  go_wp2_with fail
  have hR := h.new_blk 151 #[.pointer none, .pointer none]
  obtain ⟨G, hG⟩ : ∃ G, w.heap.size = G := ⟨_, rfl⟩
  rw [hG] at hR ⊢
  have c0 := (hR.blk i0 (at_left h0)).cell 0
  have c1 := (hR.blk i1 (at_left h1)).cell 0
  have c2 := (hR.blk i2 (at_left h2)).cell 0
  have c3 := (hR.blk i3 (at_left h3)).cell 0
  simp at c0 c1 c2 c3
  have n0 := (hR.blk l.length at_last).ne_ (hR.blk i0 (at_left h0)) (by decide)
  have n1 := (hR.blk l.length at_last).ne_ (hR.blk i1 (at_left h1)) (by decide)
  have n2 := (hR.blk l.length at_last).ne_ (hR.blk i2 (at_left h2)) (by decide)
  have n3 := (hR.blk l.length at_last).ne_ (hR.blk i3 (at_left h3)) (by decide)
  generalize w.alloc (.cells #[.pointer none, .pointer none] 151) = w1 at hR c0 c1 c2 c3 ⊢
  clear hG h
  replace hR := hR.drew
  go_region_held3 (fun w' => w'.cell? ⟨k0, 0, none⟩ = some (.int .i64 mo) ∧ w'.cell? ⟨k1, 0, none⟩ = some (.int .i64 f) ∧ w'.cell? ⟨k2, 0, none⟩ = some (.int .i64 n) ∧ w'.cell? ⟨k3, 0, none⟩ = some (.int .i64 c)) (first | exact ⟨c0, c1, c2, c3⟩ | exact ⟨y0, y1, y2, y3⟩ | exact ⟨z0, z1, z2, z3⟩ | go_keep) ((first | (go_at_call 104; (with_reducible refine (Bf.New_sep mo hR).mono ?_); rintro e w2 ⟨bb, rfl, hB⟩; have y0 := (SepO.blk hB i0 (at_left (at_left h0))).cell 0; have y1 := (SepO.blk hB i1 (at_left (at_left h1))).cell 0; have y2 := (SepO.blk hB i2 (at_left (at_left h2))).cell 0; have y3 := (SepO.blk hB i3 (at_left (at_left h3))).cell 0; have yG := SepO.blk hB l.length (at_left at_last); have ya := Blk.cell yG 0; have yb := Blk.cell yG 1; have yc := Blk.frozen yG 0; have yd := Blk.frozen yG 1; clear yG; simp at y0 y1 y2 y3 ya yb) | (go_at_call 105; (with_reducible refine (Cd.New_sep f n c hB).mono ?_); rintro e w3 ⟨bc, rfl, hC⟩; have z0 := (SepO.blk hC i0 (at_left (at_left (at_left h0)))).cell 0; have z1 := (SepO.blk hC i1 (at_left (at_left (at_left h1)))).cell 0; have z2 := (SepO.blk hC i2 (at_left (at_left (at_left h2)))).cell 0; have z3 := (SepO.blk hC i3 (at_left (at_left (at_left h3)))).cell 0; have zG := SepO.blk hC l.length (at_left (at_left at_last)); have za := Blk.cell zG 0; have zb := Blk.cell zG 1; have zc := Blk.frozen zG 0; have zd := Blk.frozen zG 1; clear zG; simp at z0 z1 z2 z3 za zb)))
  have hD : SepO W oo w3 (l ++ blkP G 151 #[.pointer none, .pointer none] :: [Bfr bb (Bf.clampN mo) [], Crd bc (Cd.none_ f n (Cd.clamp1 c))]) := by
    rw [hf, hn] at hC
    simpa [Cd.none_] using hC
  have hE := ((hD.set_mid 0 (pt bb)).set_mid 1 (pt bc)).drop_mid
  clear hC hB hD hR
  go_wp2_with fail
  exact bodyPost_ret (v := .agg #[pt bb, pt bc]) (by simp [results, Tryz.results103, go_sem, za, zb]) rfl ⟨bb, bc, rfl, by simpa using hE⟩

/-- A set: its space, size of a card, room for so many; what is new, and what is to be looked at. -/
structure RS where
  f : Int
  w : Int
  c : Int
  mo : Int
  nl : List Int
  nm : List Bool
  tl : List Int
  tm : List Bool
structure RK where
  k0 : Nat
  k1 : Nat
  k2 : Nat
  k3 : Nat
  nb : Nat
  nc : Nat
  tb : Nat
  tc : Nat
def RS.ok (s : RS) : Prop := (0 ≤ s.f ∧ s.f ≤ 1048576) ∧ (0 ≤ s.w ∧ s.w ≤ 1048576) ∧ (∀ x ∈ s.nl, s.f ≤ x ∧ x < s.f + s.w) ∧ (∀ x ∈ s.tl, s.f ≤ x ∧ x < s.f + s.w)
abbrev rcells (r : RK) (s : RS) : Array Value := #[.int .i64 s.f, .int .i64 s.w, .func (.func 103) #[] #[pt r.k0, pt r.k1, pt r.k2, pt r.k3], pt r.nb, pt r.nc, pt r.tb, pt r.tc]
abbrev ncd (s : RS) : Cd := ⟨s.f, s.w, Cd.clamp1 s.c, s.nm⟩
abbrev tcd (s : RS) : Cd := ⟨s.f, s.w, Cd.clamp1 s.c, s.tm⟩
abbrev rparts (b : Nat) (r : RK) (s : RS) : List Pr :=
  [blkP b 156 (rcells r s), boxP r.k0 s.mo, boxP r.k1 s.f, boxP r.k2 s.w, boxP r.k3 s.c, Bfr r.nb (Bf.clampN s.mo) s.nl, Crd r.nc (ncd s), Bfr r.tb (Bf.clampN s.mo) s.tl, Crd r.tc (tcd s)]
def Rms (b : Nat) (s : RS) : Pr := exP fun r : RK => andP s.ok (sepP (rparts b r s))
theorem clamp_id {n : Int} (h0 : 0 ≤ n) (h1 : n ≤ 1048576) : Cd.clampN n = n := by unfold Cd.clampN; rw [if_neg (by omega), if_neg (by omega)]

def RS.left (s : RS) : Int := ((s.tl.length + s.tm.count true : Nat) : Int)
def RS.here (s : RS) : Int := ((s.nl.length + s.nm.count true : Nat) : Int)
section
variable {w : World} {o : Nat → Prop} {b : Nat} {s : RS} {W : World} {oo : Nat → Prop} {l : List Pr}
theorem Len_q {L : List Int} {m : Int} {b : Nat} (h : SepO W oo w l) (k : Nat) (hk : l[k]? = some (Bfr b m L)) : Calls Tryz.prog 154 #[pt b] w fun e w' => e = .returned (.int .i64 L.length) ∧ ∃ n, w' = w.drewN n :=
  (Bf.Len_sep h k hk).mono fun e w' ⟨h1, h2⟩ => ⟨h1, 0, h2 ▸ rfl⟩
theorem Count_q {s : Cd} {b : Nat} (h : SepO W oo w l) (k : Nat) (hk : l[k]? = some (Crd b s)) : Calls Tryz.prog 155 #[pt b] w fun e w' => e = .returned (.int .i64 (s.m.count true)) ∧ ∃ n, w' = w.drewN n :=
  (Cd.Count_sep h k hk).mono fun e w' ⟨h1, h2⟩ => ⟨h1, 0, h2 ▸ rfl⟩
theorem cnt_b {s : Cd} {b : Nat} (h : SepO W oo w l) (k : Nat) (hk : l[k]? = some (Crd b s)) : s.m.count true ≤ 1048577 := by
  have hok := Crd_ok h k hk
  obtain ⟨h0, h1, h2, h3, h4, h5, h6⟩ := hok
  have h7 := num_b (w := s.w) (c := s.c) h2 h4
  have h8 := List.count_le_length (a := true) (l := s.m)
  omega

theorem Left_calls (hp : (Rms b s).p w o) : Calls Tryz.prog 124 #[pt b] w fun e w' => e = .returned (.int .i64 s.left) ∧ ∃ n, w' = w.drewN n := by
  obtain ⟨r, hok, hs⟩ := hp
  have h := SepO.enter hs
  have c5 := (h.blk 0 rfl).cell 5
  have c6 := (h.blk 0 rfl).cell 6
  simp at c5 c6
  have hb1 := Bfr_b h 7 rfl
  have hb2 : s.tm.count true ≤ 1048577 := cnt_b h 8 rfl
  obtain ⟨x, hx⟩ : ∃ x : Int, ((s.tl.length : Nat) : Int) = x := ⟨_, rfl⟩
  obtain ⟨y, hy⟩ : ∃ y : Int, ((s.tm.count true : Nat) : Int) = y := ⟨_, rfl⟩
  have hL : ∀ n, Calls Tryz.prog 154 #[pt r.tb] (w.drewN n) fun e w' => e = .returned (.int .i64 x) ∧ ∃ m, w' = (w.drewN n).drewN m := fun n => hx ▸ Len_q (h.drewN n) 7 rfl
  have hC : ∀ n, Calls Tryz.prog 155 #[pt r.tc] (w.drewN n) fun e w' => e = .returned (.int .i64 y) ∧ ∃ m, w' = (w.drewN n).drewN m := fun n => hy ▸ Count_q (h.drewN n) 8 rfl
  have e1 := IntWalk.i64_in (x + y) (by omega)
  have hv : s.left = x + y := by unfold RS.left; omega
  rw [hv]
  have HL := Lib.hid hL
  have HC := Lib.hid hC
  clear hL hC hv hx hy hb1 hb2 h hs
  go_enter Tryz.func124, Tryz.ntmps124
  go_wp2_with fail
  go_quiet ((first | (go_at_call 154; exact Calls.quiet_of (HL.out _)) | (go_at_call 155; exact Calls.quiet_of (HC.out _))))
  go_wp2_with fail
  go_ret
  exact ⟨rfl, _, rfl⟩
def RS.inn (s : RS) (a : Int) : Bool := decide (s.f ≤ a) && decide (a < s.f + s.w)
def RS.add (s : RS) (a : Int) : RS :=
  if s.inn a then (if (s.nl.length : Int) < Bf.clampN s.mo then { s with nl := s.nl ++ [a] } else { s with nm := s.nm.set ((ncd s).of_ a).toNat true }) else s
theorem Add_calls (a : Int) (hp : (Rms b s).p w o) (a0 : -9223372036854775808 ≤ a) (a9 : a ≤ 9223372036854775807) : Calls Tryz.prog 121 #[pt b, .int .i64 a] w fun e w' =>
    e = .returned (.bool (s.inn a)) ∧ (Rms b (s.add a)).p w' (fun i => o i ∨ w.heap.size ≤ i) ∧ Keep o w w' := by
  obtain ⟨r, hok, hs⟩ := hp
  have h := SepO.enter hs
  have hok' := hok
  obtain ⟨⟨o1, o2⟩, ⟨o3, o4⟩, o5, o6⟩ := hok'
  have c0 := (h.blk 0 rfl).cell 0
  have c1 := (h.blk 0 rfl).cell 1
  simp at c0 c1
  rcases (by omega : a < s.f ∨ (s.f ≤ a ∧ s.f + s.w ≤ a) ∨ (s.f ≤ a ∧ a < s.f + s.w)) with hx | ⟨hx, hy⟩ | ⟨hx, hy⟩
  · have hi : s.inn a = false := by unfold RS.inn; simp; omega
    have ha : s.add a = s := by unfold RS.add; rw [hi]; rfl
    rw [hi, ha]
    clear hi ha o5 o6
    have d1 : decide (a < s.f) = true := by simpa using hx
    go_enter Tryz.func121, Tryz.ntmps121
    go_wp2_with fail
    go_quiet (fail)
    go_wp2_with fail
    go_ret
    exact ⟨rfl, ⟨r, hok, (h.drewN _).leave⟩, (h.drewN _).keep0⟩
  · have hi : s.inn a = false := by unfold RS.inn; simp; omega
    have ha : s.add a = s := by unfold RS.add; rw [hi]; rfl
    rw [hi, ha]
    clear hi ha o5 o6
    have d1 : decide (a < s.f) = false := by simpa using hx
    have e1 := IntWalk.i64_in (a - s.f) (by omega)
    have d2 : decide (s.w ≤ a - s.f) = true := by simp; omega
    go_enter Tryz.func121, Tryz.ntmps121
    go_wp2_with fail
    go_quiet (fail)
    go_wp2_with fail
    go_ret
    exact ⟨rfl, ⟨r, hok, (h.drewN _).leave⟩, (h.drewN _).keep0⟩
  · have hi : s.inn a = true := by unfold RS.inn; simp; omega
    rw [hi]
    have d1 : decide (a < s.f) = false := by simpa using hx
    have e1 := IntWalk.i64_in (a - s.f) (by omega)
    have d2 : decide (s.w ≤ a - s.f) = false := by simp; omega
    have hof : 0 ≤ (ncd s).of_ a := by rw [of_in hx hy]; exact Int.ediv_nonneg (by omega) (by have := (Crd_ok h 6 rfl).2.2.2.2.1; simp only [] at this; omega)
    by_cases hf : (s.nl.length : Int) < Bf.clampN s.mo
    · have ha : s.add a = { s with nl := s.nl ++ [a] } := by unfold RS.add; rw [hi, if_pos rfl, if_pos hf]
      have hok2 : RS.ok { s with nl := s.nl ++ [a] } := ⟨⟨o1, o2⟩, ⟨o3, o4⟩, fun x hx' => by
        rcases List.mem_append.1 hx' with h' | h'
        · exact o5 x h'
        · simp at h'; subst h'; exact ⟨hx, hy⟩, o6⟩
      rw [ha]
      have HF := Lib.hid hf
      clear hi ha o5 o6 hof hf
      go_enter Tryz.func121, Tryz.ntmps121
      go_wp2_with fail
      go_quiet (fail)
      replace h := h.drewN nq
      have c3 := (h.blk 0 rfl).cell 3
      simp at c3
      go_wp2_with fail
      refine (Bf.Put_sep a h 5 rfl).mono ?_
      rintro e w2 ⟨rfl, h2⟩
      rw [show decide ((s.nl.length : Int) < Bf.clampN s.mo) = true from by simpa using HF.out]
      rw [Bf.putL_ok a HF.out] at h2
      go_wp2_with fail
      go_ret
      exact ⟨rfl, ⟨r, hok2, h2.leave⟩, h2.keep0⟩
    · have ha : s.add a = { s with nm := s.nm.set ((ncd s).of_ a).toNat true } := by unfold RS.add; rw [hi, if_pos rfl, if_neg hf]
      rw [ha]
      have HF := Lib.hid hf
      have HO := Lib.hid hof
      clear hi ha o5 o6 hof hf
      go_enter Tryz.func121, Tryz.ntmps121
      go_wp2_with fail
      go_quiet (fail)
      replace h := h.drewN nq
      have c3 := (h.blk 0 rfl).cell 3
      simp at c3
      go_wp2_with fail
      refine (Bf.Put_sep a h 5 rfl).mono ?_
      rintro e w2 ⟨rfl, h2⟩
      rw [show decide ((s.nl.length : Int) < Bf.clampN s.mo) = false from by simpa using HF.out]
      rw [Bf.putL_no a (by have := HF.out; omega)] at h2
      replace h2 : SepO w o w2 (rparts b r s) := h2
      have c4 := (h2.blk 0 rfl).cell 4
      simp at c4
      clear h c3
      go_wp2_with fail
      refine (Cd.Mark_sep a h2 6 rfl a9).mono ?_
      rintro e w3 ⟨rfl, h3⟩
      rw [if_pos HO.out] at h3
      rw [show decide (0 ≤ (ncd s).of_ a) = true from by simpa using HO.out]
      go_wp2_with fail
      go_ret
      exact ⟨rfl, ⟨r, hok, h3.leave⟩, h3.keep0⟩

def RS.flip (s : RS) : RS := if 0 < s.left then s else { s with tl := s.nl, tm := s.nm, nl := [], nm := (Cd.none_ s.f s.w (Cd.clamp1 s.c)).m }
set_option maxHeartbeats 2000000 in
theorem Flip_calls (hp : (Rms b s).p w o) : Calls Tryz.prog 87 #[pt b] w fun e w' =>
    e = .returned (.bool (decide (s.left ≤ 0))) ∧ (Rms b s.flip).p w' (fun i => o i ∨ w.heap.size ≤ i) ∧ Keep o w w' := by
  have hL := Left_calls hp
  obtain ⟨r, hok, hs⟩ := hp
  have h := SepO.enter hs
  have hok' := hok
  obtain ⟨⟨o1, o2⟩, ⟨o3, o4⟩, o5, o6⟩ := hok'
  by_cases hx : 0 < s.left
  · rw [show s.flip = s from if_pos hx, show decide (s.left ≤ 0) = false from by simpa using hx]
    generalize s.left = x at hL hx
    have HL := Lib.hid hL
    clear hL o5 o6
    go_enter Tryz.func87, Tryz.ntmps87
    go_wp2_with fail
    refine HL.out.mono ?_
    rintro e w2 ⟨rfl, n, rfl⟩
    go_wp2_with fail
    go_ret
    exact ⟨rfl, ⟨r, hok, (h.drewN _).leave⟩, (h.drewN _).keep0⟩
  · rw [show s.flip = { s with tl := s.nl, tm := s.nm, nl := [], nm := (Cd.none_ s.f s.w (Cd.clamp1 s.c)).m } from if_neg hx, show decide (s.left ≤ 0) = true from by simpa using hx]
    generalize s.left = x at hL hx
    have HL := Lib.hid hL
    clear hL
    have hok2 : RS.ok { s with tl := s.nl, tm := s.nm, nl := [], nm := (Cd.none_ s.f s.w (Cd.clamp1 s.c)).m } := ⟨⟨o1, o2⟩, ⟨o3, o4⟩, fun x h => by simp at h, o5⟩
    clear o5 o6
    go_enter Tryz.func87, Tryz.ntmps87
    go_wp2_with fail
    refine HL.out.mono ?_
    rintro e w2 ⟨rfl, n, rfl⟩
    replace h := h.drewN (n + 1)
    have hb := h.blk 0 rfl
    have c2 := hb.cell 2
    have c3 := hb.cell 3
    have c4 := hb.cell 4
    have c5 := hb.cell 5
    have c6 := hb.cell 6
    simp at c2 c3 c4 c5 c6
    go_wp2_with fail
    have hcf := clamp_id o1 o2
    have hcw := clamp_id o3 o4
    have HCF := Lib.hid hcf
    have HCW := Lib.hid hcw
    clear hcf hcw hb
    go_region_with (first | (go_at_call 103; (with_reducible refine (empty_calls h 1 2 3 4 r.k0 r.k1 r.k2 r.k3 s.mo s.f s.w s.c rfl rfl rfl rfl HCF.out HCW.out).mono ?_); rintro e w3 ⟨b1, b2, rfl, h3⟩; have y3 := (SepO.blk h3 0 rfl).cell 3; have y4 := (SepO.blk h3 0 rfl).cell 4; have y5 := (SepO.blk h3 0 rfl).cell 5; have y6 := (SepO.blk h3 0 rfl).cell 6; have z3 := (SepO.blk h3 0 rfl).frozen 3; have z4 := (SepO.blk h3 0 rfl).frozen 4; have z5 := (SepO.blk h3 0 rfl).frozen 5; have z6 := (SepO.blk h3 0 rfl).frozen 6; simp at y3 y4 y5 y6))
    all_goals
      have h4 := ((((h3.set_blk 0 rfl 3 (pt b1)).set_blk 0 rfl 4 (pt b2)).set_blk 0 rfl 5 (pt r.nb)).set_blk 0 rfl 6 (pt r.nc)).pick [0, 1, 2, 3, 4, 9, 10, 5, 6] (by decide)
      clear y3 y4 y5 y6 z3 z4 z5 z6 c2 c3 c4 c5 c6 h h3
      go_wp2_with fail
      go_ret
      exact ⟨rfl, ⟨⟨r.k0, r.k1, r.k2, r.k3, b1, b2, r.nb, r.nc⟩, hok2, h4.leave⟩, h4.keep0⟩

/-- What 'Next' leaves and says: the place or part, whether it is a part, whether there is one. -/
def RS.next (s : RS) : RS :=
  match s.tl with
  | _ :: L => { s with tl := L }
  | [] => match fstI s.tm with
    | some n => { s with tm := s.tm.set n false }
    | none => s
def RS.said (s : RS) : (Int × Int) × (Bool × Bool) :=
  match s.tl with
  | x :: _ => ((x, x + 1), (false, true))
  | [] => match fstI s.tm with
    | some n => ((tcd s).part n, (true, true))
    | none => ((0, 0), (false, false))
abbrev four (p : (Int × Int) × (Bool × Bool)) : Value := .tuple #[.int .i64 p.1.1, .int .i64 p.1.2, .bool p.2.1, .bool p.2.2]
set_option maxHeartbeats 2000000 in
theorem Next_calls (hp : (Rms b s).p w o) : Calls Tryz.prog 126 #[pt b] w fun e w' =>
    e = .returned (four s.said) ∧ (Rms b s.next).p w' (fun i => o i ∨ w.heap.size ≤ i) ∧ Keep o w w' := by
  obtain ⟨r, hok, hs⟩ := hp
  have h := SepO.enter hs
  have hok' := hok
  obtain ⟨⟨o1, o2⟩, ⟨o3, o4⟩, o5, o6⟩ := hok'
  have hb := h.blk 0 rfl
  have c5 := hb.cell 5
  have c6 := hb.cell 6
  simp at c5 c6
  clear hb
  obtain ⟨f, n, c, mo, nl, nm, tl, tm⟩ := s
  cases tl with
  | cons x L =>
    have hx := o6 x (by simp)
    obtain ⟨hx0, hx1⟩ := hx
    have hok2 : RS.ok ⟨f, n, c, mo, nl, nm, L, tm⟩ := ⟨⟨o1, o2⟩, ⟨o3, o4⟩, o5, fun y hy => o6 y (List.mem_cons_of_mem _ hy)⟩
    simp only [] at hx0 hx1 o1 o2 o3 o4
    clear o5 o6
    go_enter Tryz.func126, Tryz.ntmps126
    go_wp2_with fail
    refine (Bf.Take_sep h 7 rfl).mono ?_
    rintro e w2 ⟨rfl, h2⟩
    rw [show fst0 (x :: L) = x from rfl, show some0 (x :: L) = true from rfl]
    replace h2 : SepO w o w2 (rparts b r ⟨f, n, c, mo, nl, nm, L, tm⟩) := h2
    go_wp2_with fail
    exact bodyPost_ret (v := .tuple #[.int .i64 x, .int .i64 (x + 1), .bool false, .bool true]) (by simp [results, Tryz.results126, go_sem]) rfl ⟨rfl, ⟨r, hok2, h2.leave⟩, h2.keep0⟩
  | nil =>
    clear o5 o6
    have hn1 : RS.next ⟨f, n, c, mo, nl, nm, [], tm⟩ = (match fstI tm with | some n' => ⟨f, n, c, mo, nl, nm, [], tm.set n' false⟩ | none => ⟨f, n, c, mo, nl, nm, [], tm⟩) := rfl
    have hn2 : RS.said ⟨f, n, c, mo, nl, nm, [], tm⟩ = (match fstI tm with | some n' => ((tcd ⟨f, n, c, mo, nl, nm, [], tm⟩).part n', (true, true)) | none => ((0, 0), (false, false))) := rfl
    rw [hn1, hn2]
    clear hn1 hn2
    obtain ⟨q0, hq0⟩ : ∃ q, fstI tm = q := ⟨_, rfl⟩
    rw [hq0]
    have HQ0 := Lib.hid hq0
    clear hq0
    go_enter Tryz.func126, Tryz.ntmps126
    go_wp2_with fail
    refine (Bf.Take_sep h 7 rfl).mono ?_
    rintro e w2 ⟨rfl, h2⟩
    rw [show fst0 [] = 0 from rfl, show some0 [] = false from rfl]
    replace h2 : SepO w o w2 (rparts b r ⟨f, n, c, mo, nl, nm, [], tm⟩) := h2
    have d6 := (h2.blk 0 rfl).cell 6
    simp at d6
    clear c5 c6 h
    go_wp2_with fail
    refine (Cd.First_sep 0 h2 8 rfl).mono ?_
    rintro e w3 ⟨q, hq, rfl, rfl⟩
    have hqq : q = q0 := by rw [← HQ0.out]; exact IsFirst.uniq (k := 0) hq (fstI_spec tm)
    subst hqq
    replace hq : IsFirst tm 0 q := hq
    cases q with
    | none =>
      have HQ := Lib.hid hq
      clear hq
      rw [show fstO none = 0 from rfl, show (none : Option Nat).isSome = false from rfl]
      go_wp2_with fail
      exact bodyPost_ret (v := .tuple #[.int .i64 0, .int .i64 0, .bool false, .bool false]) (by simp [results, Tryz.results126, go_sem]) rfl ⟨rfl, ⟨r, hok, h2.leave⟩, h2.keep0⟩
    | some k =>
      have hmk : Cd.isMark (tcd ⟨f, n, c, mo, nl, nm, [], tm⟩) (k : Int) = true := by unfold Cd.isMark; rw [if_pos (by omega)]; exact hq.2.2.1
      have HQ := Lib.hid hq
      have HM := Lib.hid hmk
      clear hq hmk
      rw [show fstO (some k) = (k : Int) from rfl, show (some k).isSome = true from rfl]
      go_wp2_with fail
      refine (Cd.Clear_sep (k : Int) h2 8 rfl).mono ?_
      rintro e w4 ⟨rfl, h4⟩
      rw [HM.out, if_pos rfl, Int.toNat_natCast] at h4
      rw [HM.out]
      replace h4 : SepO w o w4 (rparts b r ⟨f, n, c, mo, nl, nm, [], tm.set k false⟩) := h4
      have f6 := (h4.blk 0 rfl).cell 6
      simp at f6
      clear d6 h2
      go_wp2_with fail
      refine (Cd.Part_sep (k : Int) h4 8 rfl).mono ?_
      rintro e w5 ⟨rfl, h5⟩
      have hpe : Cd.part (tcd ⟨f, n, c, mo, nl, nm, [], tm.set k false⟩) (k : Int) = Cd.part (tcd ⟨f, n, c, mo, nl, nm, [], tm⟩) (k : Int) := by
        unfold Cd.part; simp only [List.length_set]
      rw [hpe]
      clear hpe f6
      go_wp2_with fail
      refine bodyPost_ret (v := four ((Cd.part (tcd ⟨f, n, c, mo, nl, nm, [], tm⟩) (k : Int)), (true, true))) (by simp [results, Tryz.results126, go_sem]) rfl ⟨rfl, ⟨r, hok, h5.leave⟩, h5.keep0⟩

theorem Rms_new (h : SepO w (fun _ => False) W l) : (sepP l).p W (fun i => w.heap.size ≤ i) := (sepP l).mono h.leave (fun i h => h.elim (fun h => h.elim) id)
set_option maxHeartbeats 2000000 in
theorem New_calls (f n c mo : Int) (w : World) : Calls Tryz.prog 67 #[.int .i64 f, .int .i64 n, .int .i64 c, .int .i64 mo] w fun e w' =>
    ∃ b, e = .returned (pt b) ∧ (Rms b ⟨Cd.clampN f, Cd.clampN n, c, mo, [], (Cd.none_ (Cd.clampN f) (Cd.clampN n) (Cd.clamp1 c)).m, [], (Cd.none_ (Cd.clampN f) (Cd.clampN n) (Cd.clamp1 c)).m⟩).p w' (fun i => w.heap.size ≤ i) ∧ Keep (fun _ => False) w w' := by
  obtain ⟨f1, hf1⟩ : ∃ m, (if 1048576 < f then 1048576 else f) = m := ⟨_, rfl⟩
  obtain ⟨F, hF⟩ : ∃ c, (if 0 < f1 then f1 else 0) = c := ⟨_, rfl⟩
  obtain ⟨n1, hn1⟩ : ∃ m, (if 1048576 < n then 1048576 else n) = m := ⟨_, rfl⟩
  obtain ⟨N, hN⟩ : ∃ c, (if 0 < n1 then n1 else 0) = c := ⟨_, rfl⟩
  have eF : Cd.clampN f = F ∧ 0 ≤ F ∧ F ≤ 1048576 := by unfold Cd.clampN; rw [← hF, ← hf1]; (repeat' split) <;> omega
  have eN : Cd.clampN n = N ∧ 0 ≤ N ∧ N ≤ 1048576 := by unfold Cd.clampN; rw [← hN, ← hn1]; (repeat' split) <;> omega
  rw [eF.1, eN.1]
  have bF := eF.2
  have bN := eN.2
  clear eF eN
  have h0 := (((Sep.nil w).new_blk 3 #[.int .i64 f]).new_blk 3 #[.int .i64 n]).new_blk 3 #[.int .i64 c]
  have h := h0.new_blk 3 #[.int .i64 mo]
  clear h0
  simp only [List.cons_append, List.nil_append, World.size_alloc] at h
  go_enter Tryz.func67, Tryz.ntmps67
  go_wp2_with fail
  obtain ⟨B, hB⟩ : ∃ B, w.heap.size = B := ⟨_, rfl⟩
  rw [hB] at h ⊢
  have hBw : w.heap.size ≤ B := by omega
  generalize (((w.alloc (.cells #[.int .i64 f] 3)).alloc (.cells #[.int .i64 n] 3)).alloc (.cells #[.int .i64 c] 3)).alloc (.cells #[.int .i64 mo] 3) = w1 at h ⊢
  have c0 := (h.blk 0 rfl).cell 0
  have c1 := (h.blk 1 rfl).cell 0
  have z0 := (h.blk 0 rfl).frozen 0
  have z1 := (h.blk 1 rfl).frozen 0
  simp at c0 c1
  have h2 := ((h.set_blk 0 rfl 0 (.int .i64 F)).set_blk 1 rfl 0 (.int .i64 N)).drew
  have H2 := Lib.hid h2
  clear h h2 hB
  go_region
  all_goals
    have h := H2.out
    clear c0 c1 z0 z1
    go_wp2_with fail
    generalize ((w1.setCell ⟨B, 0, none⟩ (.int .i64 F)).setCell ⟨B + 1, 0, none⟩ (.int .i64 N)).drew = w2 at h ⊢
    clear H2
    replace h := h.drew
    replace h : SepO w (fun _ => False) w2.drew [boxP B F, boxP (B + 1) N, boxP (B + 1 + 1) c, boxP (B + 1 + 1 + 1) mo] := h
    have c0 := (h.blk 0 rfl).cell 0
    have c1 := (h.blk 1 rfl).cell 0
    simp at c0 c1
    have hcf := clamp_id bF.1 bF.2
    have hcw := clamp_id bN.1 bN.2
    have HCF := Lib.hid hcf
    have HCW := Lib.hid hcw
    clear hcf hcw
    go_region_held3 (fun w' => w'.cell? ⟨B, 0, none⟩ = some (.int .i64 F) ∧ w'.cell? ⟨B + 1, 0, none⟩ = some (.int .i64 N)) (first | exact ⟨c0, c1⟩ | exact ⟨y0, y1⟩ | exact ⟨z0, z1⟩ | go_keep) ((first | (go_at_call 103; (first | ((with_reducible refine (empty_calls h3 3 0 1 2 _ _ _ _ mo F N c rfl rfl rfl rfl HCF.out HCW.out).mono ?_); rintro e w4 ⟨b3, b4, rfl, h4⟩; have z0 := (SepO.blk h4 0 rfl).cell 0; have z1 := (SepO.blk h4 1 rfl).cell 0; simp at z0 z1) | ((with_reducible refine (empty_calls h 3 0 1 2 _ _ _ _ mo F N c rfl rfl rfl rfl HCF.out HCW.out).mono ?_); rintro e w3 ⟨b1, b2, rfl, h3⟩; have y0 := (SepO.blk h3 0 rfl).cell 0; have y1 := (SepO.blk h3 1 rfl).cell 0; simp at y0 y1)))))
    replace h4 := (h4.new_blk 156 (rcells ⟨B + 1 + 1 + 1, B, B + 1, B + 1 + 1, b1, b2, b3, b4⟩ ⟨F, N, c, mo, [], (Cd.none_ F N (Cd.clamp1 c)).m, [], (Cd.none_ F N (Cd.clamp1 c)).m⟩)).pick [8, 3, 0, 1, 2, 4, 5, 6, 7] (by decide)
    go_wp2_with fail
    go_ret
    exact ⟨_, rfl, ⟨⟨B + 1 + 1 + 1, B, B + 1, B + 1 + 1, b1, b2, b3, b4⟩, ⟨bF, bN, fun x h => by simp at h, fun x h => by simp at h⟩, (Rms_new h4)⟩, h4.keep0⟩
end
end Go.Proofs.YtihmkkjmnbehbaaGreat.Re
/- Sets as parts of memory; the fixed fact of layer 10. No condition. -/
set_option linter.unusedVariables false
set_option linter.unusedSimpArgs false
namespace Go.Proofs.YtihmkkjmnbehbaaGreat.Re
open Go.RowKit Go.Proofs.YtihmkkjmnbehbaaGreat.W Go.Proofs.YtihmkkjmnbehbaaGreat.Cd Go.Proofs.YtihmkkjmnbehbaaGreat.Bf Go.Proofs.YtihmkkjmnbehbaaGreat.Sm
section
variable {W w : World} {oo : Nat → Prop} {l : List Pr} {b : Nat} {s : RS}
theorem Rms_ok (h : SepO W oo w l) (k : Nat) (hk : l[k]? = some (Rms b s)) : s.ok := by
  obtain ⟨o, ⟨r, h, _⟩, _⟩ := h.get k hk
  exact h
theorem New_sep (f n c mo : Int) (h : SepO W oo w l) : Calls Tryz.prog 67 #[.int .i64 f, .int .i64 n, .int .i64 c, .int .i64 mo] w fun e w' =>
    ∃ b, e = .returned (pt b) ∧ SepO W oo w' (l ++ [Rms b ⟨Cd.clampN f, Cd.clampN n, c, mo, [], (Cd.none_ (Cd.clampN f) (Cd.clampN n) (Cd.clamp1 c)).m, [], (Cd.none_ (Cd.clampN f) (Cd.clampN n) (Cd.clamp1 c)).m⟩]) :=
  (New_calls f n c mo w).mono fun e w' ⟨b, he, hr, hk⟩ => ⟨b, he, h.add (P := Rms b _) hk hr⟩
theorem Left_sep (h : SepO W oo w l) (k : Nat) (hk : l[k]? = some (Rms b s)) : Calls Tryz.prog 124 #[pt b] w fun e w' => e = .returned (.int .i64 s.left) ∧ SepO W oo w' l := by
  obtain ⟨o, hp, _, hup⟩ := h.open0 k hk
  exact (Left_calls hp).mono fun e w' ⟨he, n, hw⟩ => ⟨he, hw ▸ h.drewN n⟩
theorem Add_sep (a : Int) (h : SepO W oo w l) (k : Nat) (hk : l[k]? = some (Rms b s)) (a0 : -9223372036854775808 ≤ a) (a9 : a ≤ 9223372036854775807) : Calls Tryz.prog 121 #[pt b, .int .i64 a] w fun e w' =>
    e = .returned (.bool (s.inn a)) ∧ SepO W oo w' (l.set k (Rms b (s.add a))) := by
  obtain ⟨o, hp, _, hup⟩ := h.open_ k hk
  exact (Add_calls a hp a0 a9).mono fun e w' ⟨he, hr, hkk⟩ => ⟨he, hup w' (Rms _ _) hr hkk⟩
theorem Flip_sep (h : SepO W oo w l) (k : Nat) (hk : l[k]? = some (Rms b s)) : Calls Tryz.prog 87 #[pt b] w fun e w' => e = .returned (.bool (decide (s.left ≤ 0))) ∧ SepO W oo w' (l.set k (Rms b s.flip)) := by
  obtain ⟨o, hp, _, hup⟩ := h.open_ k hk
  exact (Flip_calls hp).mono fun e w' ⟨he, hr, hkk⟩ => ⟨he, hup w' (Rms _ _) hr hkk⟩
theorem Next_sep (h : SepO W oo w l) (k : Nat) (hk : l[k]? = some (Rms b s)) : Calls Tryz.prog 126 #[pt b] w fun e w' => e = .returned (four s.said) ∧ SepO W oo w' (l.set k (Rms b s.next)) := by
  obtain ⟨o, hp, _, hup⟩ := h.open_ k hk
  exact (Next_calls hp).mono fun e w' ⟨he, hr, hkk⟩ => ⟨he, hup w' (Rms _ _) hr hkk⟩
end
theorem Next_nil (w : World) : Calls Tryz.prog 126 #[.pointer none] w fun e w' => e = .returned (four ((0, 0), (false, false))) ∧ w = w' := by
  go_enter Tryz.func126, Tryz.ntmps126
  go_wp2_with fail
  exact bodyPost_ret (v := four ((0, 0), (false, false))) (by simp [results, Tryz.results126, go_sem]) rfl ⟨rfl, rfl⟩

end Go.Proofs.YtihmkkjmnbehbaaGreat.Re
/- Slices of structs of one-cell fields, as lists. No condition. -/
set_option linter.unusedVariables false
set_option linter.unusedSimpArgs false
namespace Go.Proofs.YtihmkkjmnbehbaaGreat.W
open Go.RowKit

/-- A slice of structs of k cells each, that reads as a list; f: an element's cells. -/
def SS {α : Type} (w : World) (ok : Nat → Prop) (f : α → List Value) (k : Nat) (v : Value) (l : List α) : Prop :=
  ∃ (A : Option Addr) (c : Nat), v = .slice A l.length c ∧ l.length ≤ 9223372036854775807 ∧
    (0 < l.length → ∃ b o, A = some ⟨b, o, none⟩ ∧ ok b ∧ b < w.heap.size ∧ ∀ j x, l[j]? = some x → ∀ i u, (f x)[i]? = some u → w.cell? ⟨b, o + (j * k + i), none⟩ = some u)

theorem SS.keep {α : Type} {w w' : World} {ok ok' : Nat → Prop} {f : α → List Value} {k : Nat} {v : Value} {l : List α} (h : SS w ok f k v l) (hk : Keep ok' w w') (hn : ∀ i, ok i → ok' i → False) : SS w' ok f k v l := by
  obtain ⟨A, c, e, hl, hc⟩ := h
  refine ⟨A, c, e, hl, fun h0 => ?_⟩
  obtain ⟨b, o, hA, hb, hlt, hcell⟩ := hc h0
  exact ⟨b, o, hA, hb, Nat.lt_of_lt_of_le hlt hk.size, fun j x hj i u hu => (World.cell?_of_block (hk.block b hlt (fun h' => hn b hb h'))).trans (hcell j x hj i u hu)⟩
theorem SS.of_map {α β : Type} {w : World} {ok : Nat → Prop} {f : β → List Value} {g : α → β} {k : Nat} {v : Value} {l : List α} (h : SS w ok f k v (l.map g)) : SS w ok (fun x => f (g x)) k v l := by
  obtain ⟨A, c, e, hl, hc⟩ := h
  rw [List.length_map] at e hl hc
  refine ⟨A, c, e, hl, fun h0 => ?_⟩
  obtain ⟨b, o, hA, hb, hlt, hcell⟩ := hc h0
  exact ⟨b, o, hA, hb, hlt, fun j x hj i u hu => hcell j (g x) (by rw [List.getElem?_map, hj]; rfl) i u hu⟩

/-- Something to do, of two numbers. -/
structure A2 where
  what : Int
  n : Int
def A2.cells (x : A2) : List Value := [.int .i64 x.what, .int .i64 x.n]
def A2.wf (x : A2) : Prop := (-9223372036854775808 ≤ x.what ∧ x.what ≤ 9223372036854775807) ∧ (-9223372036854775808 ≤ x.n ∧ x.n ≤ 9223372036854775807)
/-- Something to do, of four numbers and a word. -/
structure A5 where
  kind : Int
  a : Int
  b : Int
  c : Int
  v : Int
def A5.cells (x : A5) : List Value := [.int .i64 x.kind, .int .i64 x.a, .int .i64 x.b, .int .i64 x.c, .int .u64 x.v]
def A5.wf (x : A5) : Prop := (-9223372036854775808 ≤ x.kind ∧ x.kind ≤ 9223372036854775807) ∧ (-9223372036854775808 ≤ x.a ∧ x.a ≤ 9223372036854775807) ∧ (-9223372036854775808 ≤ x.b ∧ x.b ≤ 9223372036854775807) ∧ (-9223372036854775808 ≤ x.c ∧ x.c ≤ 9223372036854775807) ∧ (0 ≤ x.v ∧ x.v ≤ 18446744073709551615)
end Go.Proofs.YtihmkkjmnbehbaaGreat.W
