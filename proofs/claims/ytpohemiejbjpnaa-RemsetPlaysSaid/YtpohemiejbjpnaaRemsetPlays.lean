/- RemsetPlays as a contract. Condition: the list reads as a list. -/
import Derived.Test.YtpohemiejbjpnaaRemsetPure
import Derived.Test.YtpohemiejbjpnaaStructs
import Derived.Deep.LoopGhost
set_option linter.unusedVariables false
set_option linter.unusedSimpArgs false
namespace Go.Proofs.Ytpohemiejbjpnaa.Re
open Go.RowKit Go.Proofs.Ytpohemiejbjpnaa.W Go.Proofs.Ytpohemiejbjpnaa.Cd Go.Proofs.Ytpohemiejbjpnaa.Bf Go.Proofs.Ytpohemiejbjpnaa.Sm

def pad (D : Nat) (m : List Bool) : List Bool := m ++ List.replicate (D - m.length) false
theorem pad_len {D : Nat} {m : List Bool} (h : m.length ≤ D) : (pad D m).length = D := by unfold pad; simp; omega
theorem pad_get {D : Nat} (m : List Bool) (j : Nat) : (pad D m)[j]?.getD false = m[j]?.getD false := by
  unfold pad
  rcases Nat.lt_or_ge j m.length with h | h
  · rw [List.getElem?_append_left h]
  · rw [List.getElem?_append_right h, List.getElem?_eq_none h, List.getElem?_replicate]; split <;> rfl
theorem pad_set {D : Nat} {m : List Bool} {j : Nat} (h : j < m.length) (x : Bool) : (pad D m).set j x = pad D (m.set j x) := by
  unfold pad
  rw [List.set_append_left _ _ h, List.length_set]
theorem pad_cnt {D : Nat} (m : List Bool) : (pad D m).count true = m.count true := by unfold pad; rw [List.count_append, rep_cnt]; rfl
theorem pad_rep {D n : Nat} (h : n ≤ D) : pad D (List.replicate n false) = List.replicate D false := by
  unfold pad; rw [List.length_replicate, List.replicate_append_replicate]; congr 1; omega
theorem cnt_next {m : List Bool} {k : Nat} (hk : k < m.length) (v : Bool) (hv : m[k]?.getD false = v) : (m.take (k + 1)).count true = (m.take k).count true + (if v = true then 1 else 0) := by
  subst hv
  rw [List.take_add_one, List.count_append]
  simp [List.getElem?_eq_getElem hk]
  cases m[k] <;> simp
theorem Bfr_tl {W w : World} {oo : Nat → Prop} {l : List Pr} {b : Nat} {s : RS} (h : SepO W oo w l) (k : Nat) (hk : l[k]? = some (Rms b s)) : (s.tl.length : Int) ≤ 1048576 := by
  obtain ⟨o, ⟨r, hok, hs⟩, _⟩ := h.get k hk
  have h1 := Bfr_b (SepO.enter hs) 7 rfl
  omega
/-- The law's rows and marks, beside the set. -/
abbrev lp (b R M g0 g1 : Nat) (D : Nat) (A0 A1 : Option Addr) (n0 n1 c0 c1 : Nat) (s : RS) : List Pr :=
  [Rms b s, blkP R 27 #[.slice A0 n0 c0, .slice A1 n1 c1], blkP M 29 #[.slice (some ⟨g0, 0, none⟩) D D, .slice (some ⟨g1, 0, none⟩) D D],
   rowP 3 A0 n0 c0 (s.nl.map (Value.int .i64)), rowP 3 A1 n1 c1 (s.tl.map (Value.int .i64)), blkP g0 4 (bools (pad D s.nm)), blkP g1 4 (bools (pad D s.tm))]

abbrev slc (g D : Nat) : Value := .slice (some ⟨g, 0, none⟩) D D
abbrev fals (D : Nat) : Array Value := bools (List.replicate D false)
theorem start_ {w W : World} {b R M D : Nat} {s : RS} (h : Sep w W [Rms b s, blkP R 27 #[.slice none 0 0, .slice none 0 0], blkP M 29 #[.slice none 0 0, .slice none 0 0]]) (h1 : s.nl = []) (h2 : s.tl = []) (h3 : pad D s.nm = List.replicate D false) (h4 : pad D s.tm = List.replicate D false) :
    (Sep w ((((W.setCell ⟨M, 0, none⟩ (slc W.heap.size D)).setCell ⟨M, 1, none⟩ (slc (W.heap.size + 1) D)).alloc (.cells (fals D) 4)).alloc (.cells (fals D) 4)).drew (lp b R M W.heap.size (W.heap.size + 1) D none none 0 0 0 0 s)) ∧
    (Sep w ((((W.setCell ⟨M, 0, none⟩ (slc (W.heap.size + 1) D)).setCell ⟨M, 1, none⟩ (slc W.heap.size D)).alloc (.cells (fals D) 4)).alloc (.cells (fals D) 4)).drew (lp b R M (W.heap.size + 1) W.heap.size D none none 0 0 0 0 s)) := by
  have e0 : (lp b R M W.heap.size (W.heap.size + 1) D none none 0 0 0 0 s) = [Rms b s, blkP R 27 #[.slice none 0 0, .slice none 0 0], blkP M 29 #[slc W.heap.size D, slc (W.heap.size + 1) D], rowP 3 none 0 0 [], rowP 3 none 0 0 [], blkP W.heap.size 4 (fals D), blkP (W.heap.size + 1) 4 (fals D)] := by simp [lp, h1, h2, h3, h4]
  have e1 : (lp b R M (W.heap.size + 1) W.heap.size D none none 0 0 0 0 s) = [Rms b s, blkP R 27 #[.slice none 0 0, .slice none 0 0], blkP M 29 #[slc (W.heap.size + 1) D, slc W.heap.size D], rowP 3 none 0 0 [], rowP 3 none 0 0 [], blkP (W.heap.size + 1) 4 (fals D), blkP W.heap.size 4 (fals D)] := by simp [lp, h1, h2, h3, h4]
  rw [e0, e1]
  have hz : ∀ (x y : Value), ((W.setCell ⟨M, 0, none⟩ x).setCell ⟨M, 1, none⟩ y).heap.size = W.heap.size := fun x y => by simp [World.setCell]
  constructor
  · have hn := (((h.set_blk 2 rfl 0 (slc W.heap.size D)).set_blk 2 rfl 1 (slc (W.heap.size + 1) D)).new_blk 4 (fals D)).new_blk 4 (fals D)
    simp only [World.size_alloc, hz] at hn
    exact ((hn.nil_row 3 |>.nil_row 3).pick [0, 1, 2, 5, 6, 3, 4] (by decide)).drew
  · have hn := (((h.set_blk 2 rfl 0 (slc (W.heap.size + 1) D)).set_blk 2 rfl 1 (slc W.heap.size D)).new_blk 4 (fals D)).new_blk 4 (fals D)
    simp only [World.size_alloc, hz] at hn
    exact ((hn.nil_row 3 |>.nil_row 3).pick [0, 1, 2, 5, 6, 4, 3] (by decide)).drew

theorem flip_end {w W : World} {b R M D g0 n0 k0 : Nat} {A0 : Option Addr} {s : RS} (h : Sep w W [Rms b s, blkP R 27 #[.slice A0 n0 k0, .slice A0 n0 k0], blkP M 29 #[slc g0 D, slc g0 D], rowP 3 A0 n0 k0 (s.tl.map (Value.int .i64)), emp, blkP g0 4 (bools (pad D s.tm))]) {K : Nat} (h1 : pad D (List.replicate K false) = List.replicate D false) (h2 : s.nl = [] := by rfl) (h3 : s.nm = List.replicate K false := by rfl) :
    Sep w (((W.setCell ⟨R, 0, none⟩ (.slice none 0 0)).setCell ⟨M, 0, none⟩ (slc W.heap.size D)).alloc (.cells (fals D) 4)).drew (lp b R M W.heap.size g0 D none A0 0 n0 0 k0 s) := by
  have hz : ∀ (x y : Value), ((W.setCell ⟨R, 0, none⟩ x).setCell ⟨M, 0, none⟩ y).heap.size = W.heap.size := fun x y => by simp [World.setCell]
  have hn := ((h.set_blk 1 rfl 0 (.slice none 0 0)).set_blk 2 rfl 0 (slc W.heap.size D)).new_blk 4 (fals D)
  simp only [hz] at hn
  have e : (lp b R M W.heap.size g0 D none A0 0 n0 0 k0 s) = [Rms b s, blkP R 27 #[.slice none 0 0, .slice A0 n0 k0], blkP M 29 #[slc W.heap.size D, slc g0 D], rowP 3 none 0 0 [], rowP 3 A0 n0 k0 (s.tl.map (Value.int .i64)), blkP W.heap.size 4 (fals D), blkP g0 4 (bools (pad D s.tm))] := by simp [lp, h2, h3, h1]
  rw [e]
  exact ((hn.nil_row 3).pick [0, 1, 2, 7, 3, 6, 5] (by decide)).drew

set_option maxHeartbeats 8000000 in
set_option maxRecDepth 100000 in
theorem Plays_calls {v1 : Value} {l1 : List A2} (a0 a1 a2 a3 : Int) (w : World) (g1 : SS w (fun i => i < w.heap.size) A2.cells 2 v1 l1) (q1 : ∀ x ∈ l1, A2.wf x)
    (p0 : 0 ≤ a0 ∧ a0 ≤ 65535) (p1 : 0 ≤ a1 ∧ a1 ≤ 65535) (p2 : 0 ≤ a2 ∧ a2 ≤ 65535) (p3 : 0 ≤ a3 ∧ a3 ≤ 65535) :
    Calls Try.prog 3 #[.int .u16 a0, .int .u16 a1, .int .u16 a2, .int .u16 a3, v1] w fun e w' => e = .returned (.bool true) ∧ Below w.heap.size w w' := by
  obtain ⟨A1, c1, rfl, hm1, hc1⟩ := g1
  have HC1 := Lib.hid hc1
  have Q1 := Lib.hid q1
  clear hc1 q1
  obtain ⟨p00, p01⟩ := p0
  obtain ⟨p10, p11⟩ := p1
  obtain ⟨p20, p21⟩ := p2
  obtain ⟨p30, p31⟩ := p3
  have r10 : 0 ≤ a1 % 2000 := by omega
  have r11 : a1 % 2000 < 2000 := by omega
  have r20 : 0 ≤ a2 % 300 := by omega
  have r21 : a2 % 300 < 300 := by omega
  have r30 : 0 ≤ a3 % 20 := by omega
  have r31 : a3 % 20 < 20 := by omega
  go_enter Try.func3, Try.ntmps3
  go_wp2_with fail
  generalize a1 % 2000 = n at r10 r11 ⊢
  generalize a2 % 300 = cr at r20 r21 ⊢
  generalize a3 % 20 = mo at r30 r31 ⊢
  clear p10 p11 p20 p21 p30 p31
  refine (New_sep a0 n cr mo (Sep.nil w)).mono ?_
  rintro e w1 ⟨b, rfl, h1⟩
  obtain ⟨c, hc⟩ : ∃ c, Cd.clamp1 cr = c := ⟨_, rfl⟩
  have hcc : c = if cr < 1 then 1 else cr := by rw [← hc]; unfold Cd.clamp1; (repeat' split) <;> omega
  have c0 : 1 ≤ c := by rw [hcc]; split <;> omega
  have c1' : c < 300 := by rw [hcc]; split <;> omega
  obtain ⟨K, hK⟩ : ∃ K : Nat, Cd.num n c = (K : Int) := ⟨(Cd.num n c).toNat, by have := num_b (w := n) (c := c) r10 c0; omega⟩
  have hnone : (Cd.none_ (Cd.clampN a0) (Cd.clampN n) (Cd.clamp1 cr)).m = List.replicate K false := by
    unfold Cd.none_; rw [hc, clamp_id r10 (by omega), hK, Int.toNat_natCast]
  rw [clamp_id p00 (by omega), clamp_id r10 (by omega), hc] at h1
  rw [clamp_id p00 (by omega), clamp_id r10 (by omega), hc] at hnone
  rw [hnone] at h1
  replace h1 : Sep w w1 [Rms b ⟨a0, n, cr, mo, [], List.replicate K false, [], List.replicate K false⟩] := h1
  obtain ⟨D, hD⟩ : ∃ D : Nat, n / c + 1 = (D : Int) := ⟨(n / c + 1).toNat, by have := Int.ediv_nonneg r10 (by omega : 0 ≤ c); omega⟩
  have hq0 := Int.ediv_nonneg r10 (by omega : 0 ≤ c)
  have hq1 := Int.ediv_le_self c r10
  have hKD : K ≤ D := by
    have e1 := Int.emod_nonneg n (by omega : c ≠ 0)
    unfold Cd.num at hK; split at hK <;> omega
  have hD9 : D ≤ 2001 := by omega
  have HC := Lib.hid hc
  have HCC := Lib.hid hcc
  have HK := Lib.hid hK
  have HD := Lib.hid hD
  have HN := Lib.hid hnone
  clear hc hcc hK hD hnone
  go_upto_if 47 with (fail)
  go_cut [13] (fun v wx => v = .int .i64 c ∧ wx = w1)
  case first =>
    as_aux_lemma =>
    have hcc := HCC.out
    by_cases hlt : cr < 1
    · rw [if_pos hlt] at hcc
      have HX := Lib.hid hcc
      clear hcc
      go_wp2_with fail
      go_meet
      exact ⟨by rw [HX.out], rfl⟩
    · rw [if_neg hlt] at hcc
      have HX := Lib.hid hcc
      clear hcc
      go_wp2_with fail
      go_meet
      exact ⟨by rw [HX.out], rfl⟩
  case rest =>
  as_aux_lemma =>
  obtain ⟨rfl, rfl⟩ := hcut
  have h2 := (h1.new_blk 27 #[.slice none 0 0, .slice none 0 0]).new_blk 29 #[.slice none 0 0, .slice none 0 0]
  simp only [List.cons_append, List.nil_append, World.size_alloc] at h2
  obtain ⟨R, hR⟩ : ∃ R, wc.heap.size = R := ⟨_, rfl⟩
  rw [hR] at h2
  have HR := Lib.hid hR
  clear hR h1
  go_wp2_with fail
  rw [HR.out]
  generalize (wc.alloc (.cells #[.slice none 0 0, .slice none 0 0] 27)).alloc (.cells #[.slice none 0 0, .slice none 0 0] 29) = w3 at h2 ⊢
  clear HR
  obtain ⟨i, hi, hz, hs, hby⟩ := info_parts info_bool
  have hmk : ∀ W : World, (Instr.makeSlice 28 (.int .i64 (D : Int)) (.int .i64 (D : Int))).run Try.prog W = .ok (.slice (some ⟨W.heap.size, 0, none⟩) D D) (W.alloc (.cells (bools (List.replicate D false)) 4)) := fun W => by
    have h := run_make_rowN 28 4 i (.bool false) Try.underlying28 hi hz .i64 .i64 D D (Nat.le_refl _) (by rw [hby]; omega) (by omega) W
    rw [h, hs]
    have : madeCells (Value.bool false).cells (D * 1) = bools (List.replicate D false) := by
      apply Array.ext
      · simp [madeCells, bools]
      · intro k h1 h2; simp [madeCells, bools, Value.cells, Nat.mod_one]
    rw [this]
  have HMK := Lib.hid hmk
  have hqn := IntWalk.i64_quo n c (by omega)
  have hsn := IntWalk.i64_in (n / c + 1) (by omega)
  have hDo := HD.out
  rw [hDo] at hsn
  have hcz : (c == 0) = false := by simp; omega
  have hcz1 : ¬ c = 0 := by omega
  have z0 := (h2.blk 2 rfl).frozen 0
  have z1 := (h2.blk 2 rfl).frozen 1
  have y0 := (h2.blk 2 rfl).cell 0
  have y1 := (h2.blk 2 rfl).cell 1
  simp at y0 y1
  have hRl := (h2.blk_lt 1 rfl).2
  have hMl := (h2.blk_lt 2 rfl).2
  have hst := start_ (D := D) h2 rfl rfl (pad_rep hKD) (pad_rep hKD)
  have HST := Lib.hid hst
  clear hi hz hs hby h2 hst
  go_cut [] (fun wx => ∃ g0 g1, Sep w wx (lp b R (R + 1) g0 g1 D none none 0 0 0 0 ⟨a0, n, cr, mo, [], List.replicate K false, [], List.replicate K false⟩))
  case first =>
    as_aux_lemma =>
    go_region
    all_goals
      go_wp2_with fail
      go_meet
      first | exact ⟨_, _, HST.out.1⟩ | exact ⟨_, _, HST.out.2⟩
  case rest =>
  as_aux_lemma =>
  clear y0 y1 z0 z1 hRl hMl HST hmk hqn hsn
  obtain ⟨g0, g1, h⟩ := hcut
  go_wp2_with fail
  go_loopg [18] 80 (fun gk i wr => ∃ (k : Nat) (g0 g1 : Nat) (A0 A1 : Option Addr) (n0 n1 k0 k1 : Nat) (nl : List Int) (nm : List Bool) (tl : List Int) (tm : List Bool), k + gk = 80 ∧ i = .int .i64 k ∧ nl.length = n0 ∧ tl.length = n1 ∧ nm.length = K ∧ tm.length = K ∧
    Sep w wr (lp b R (R + 1) g0 g1 D A0 A1 n0 n1 k0 k1 ⟨a0, n, cr, mo, nl, nm, tl, tm⟩))
  case atStart => exact ⟨0, g0, g1, none, none, 0, 0, 0, 0, [], List.replicate K false, [], List.replicate K false, rfl, rfl, rfl, rfl, by simp, by simp, h⟩
  case round =>
    as_aux_lemma =>
    clear h
    obtain ⟨k, g0, g1, A0, A1, n0, n1, k0, k1, nl, nm, tl, tm, hk, rfl, hn0, hn1, hnm, htm, h⟩ := hrel
    have HN0 := Lib.hid hn0
    have HN1 := Lib.hid hn1
    have HNM := Lib.hid hnm
    have HTM := Lib.hid htm
    clear hn0 hn1 hnm htm
    by_cases hc : k < l1.length ∧ k < 80
    · obtain ⟨hl1, hl2⟩ := hc
      obtain ⟨b1, o1, rfl, hb1, hlt1, hcell1⟩ := HC1.out (by omega)
      obtain ⟨⟨wh, N⟩, hx⟩ : ∃ x, l1[k]? = some x := ⟨l1[k], List.getElem?_eq_getElem hl1⟩
      have hwf := Q1.out _ (List.mem_of_getElem? hx)
      obtain ⟨⟨wa, wb⟩, ⟨na, nb⟩⟩ := hwf
      simp only [] at wa wb na nb
      have d0 : wr.cell? ⟨b1, o1 + k * 2, none⟩ = some (.int .i64 wh) := (World.cell?_of_block (h.block b1 hlt1)).trans (hcell1 k _ hx 0 _ rfl)
      have d1 : wr.cell? ⟨b1, o1 + k * 2 + 1, none⟩ = some (.int .i64 N) := (World.cell?_of_block (h.block b1 hlt1)).trans (hcell1 k _ hx 1 _ rfl)
      clear hcell1 hx
      have h0 := h.new_blk 31 #[.int .i64 wh, .int .i64 N]
      obtain ⟨X, hX⟩ : ∃ X, wr.heap.size = X := ⟨_, rfl⟩
      rw [hX] at h0
      go_upto_region 12 with fail
      have hXw : wr.heap.size = X := hX
      generalize wr.alloc (.cells #[.int .i64 wh, .int .i64 N] 31) = w3 at h0 ⊢
      clear hX hXw d0 d1 h
      have u0 := (h0.blk 1 rfl).cell 0
      have u1 := (h0.blk 1 rfl).cell 1
      simp at u0 u1
      go_quiet (fail)
      clear u0 u1
      replace h0 := h0.drewN nq
      generalize w3.drewN nq = w4 at h0 ⊢
      have hb1' := (Rms_b h0 0 rfl).1
      have hb2' := (Rms_b h0 0 rfl).2
      unfold RS.left at hb1'
      unfold RS.here at hb2'
      simp only [] at hb1' hb2'
      rw [HN1.out] at hb1'
      rw [HN0.out] at hb2'
      go_wp2_with fail
      obtain ⟨gz, rfl⟩ : ∃ x, x = gk := ⟨_, rfl⟩
      go_loopg [20, 21, 22] D (fun gj lf hr q wx => ∃ j : Nat, j + gj = D ∧ q = .int .i64 j ∧ lf = .int .i64 ((n1 : Int) + (((pad D tm).take j).count true : Nat)) ∧ hr = .int .i64 ((n0 : Int) + (((pad D nm).take j).count true : Nat)) ∧
        Sep w wx (lp b R (R + 1) g0 g1 D A0 A1 n0 n1 k0 k1 ⟨a0, n, cr, mo, nl, nm, tl, tm⟩ ++ [blkP X 31 #[.int .i64 wh, .int .i64 N]]))
      case atStart => exact ⟨0, by omega, rfl, by simp, by simp, h0⟩
      case round =>
        as_aux_lemma =>
        clear h0
        obtain ⟨j, hj, rfl, rfl, rfl, h⟩ := hrel
        have HJ := Lib.hid hj
        have hjD : j ≤ D := by omega
        clear hj
        have u0 := (h.blk 2 rfl).cell 0
        have u1 := (h.blk 2 rfl).cell 1
        simp at u0 u1
        have hln := pad_len (D := D) (m := nm) (by rw [HNM.out]; exact hKD)
        have hlt := pad_len (D := D) (m := tm) (by rw [HTM.out]; exact hKD)
        by_cases hlt' : j < D
        · as_aux_lemma =>
          have y0 := (h.blk 5 rfl).cell j
          have y1 := (h.blk 6 rfl).cell j
          rw [bools_get (by rw [hln]; exact hlt')] at y0
          rw [bools_get (by rw [hlt]; exact hlt')] at y1
          have cn0 := cnt_next (m := pad D nm) (k := j) (by rw [hln]; exact hlt') _ rfl
          have cn1 := cnt_next (m := pad D tm) (k := j) (by rw [hlt]; exact hlt') _ rfl
          have cb0 : ((pad D nm).take j).count true ≤ j := Nat.le_trans (List.count_le_length) (by rw [List.length_take]; omega)
          have cb1 : ((pad D tm).take j).count true ≤ j := Nat.le_trans (List.count_le_length) (by rw [List.length_take]; omega)
          have hnb : (n0 : Int) ≤ 2097153 ∧ (n1 : Int) ≤ 2097153 := by omega
          obtain ⟨hnb0, hnb1⟩ := hnb
          generalize ((pad D nm).take j).count true = x0 at cn0 cb0 ⊢
          generalize ((pad D tm).take j).count true = x1 at cn1 cb1 ⊢
          clear hln hlt
          cases hv0 : (pad D nm)[j]?.getD false <;> cases hv1 : (pad D tm)[j]?.getD false <;> rw [hv0] at y0 cn0 <;> rw [hv1] at y1 cn1
          all_goals
            simp only [Bool.false_eq_true, if_false, if_true, Nat.add_zero] at cn0 cn1
            have CN0 := Lib.hid cn0
            have CN1 := Lib.hid cn1
            clear hv0 hv1 cn0 cn1
            go_wp2_with fail
            go_roundg (gk - 1)
            case measure => have := HJ.out; omega
            case rel => exact ⟨j + 1, by have := HJ.out; omega, by go_num, by rw [CN1.out] <;> first | rfl | go_num, by rw [CN0.out] <;> first | rfl | go_num, h⟩
        · as_aux_lemma =>
          have hje : j = D := by omega
          rw [hje, List.take_of_length_le (l := pad D tm) (by rw [hlt]; exact Nat.le_refl _), List.take_of_length_le (l := pad D nm) (by rw [hln]; exact Nat.le_refl _), pad_cnt, pad_cnt]
          have hleft : (⟨a0, n, cr, mo, nl, nm, tl, tm⟩ : RS).left = (n1 : Int) + ((tm.count true : Nat) : Int) := by unfold RS.left; simp only []; rw [HN1.out]; omega
          have hhere : (⟨a0, n, cr, mo, nl, nm, tl, tm⟩ : RS).here = (n0 : Int) + ((nm.count true : Nat) : Int) := by unfold RS.here; simp only []; rw [HN0.out]; omega
          have hl0 := (left_nonneg ⟨a0, n, cr, mo, nl, nm, tl, tm⟩).1
          rw [hleft] at hl0
          generalize (n1 : Int) + ((tm.count true : Nat) : Int) = lf at hleft hl0 ⊢
          generalize (n0 : Int) + ((nm.count true : Nat) : Int) = hr at hhere ⊢
          have HLF := Lib.hid hleft
          have HHR := Lib.hid hhere
          clear hje hlt' HJ hleft hhere hln hlt hb1' hb2'
          go_wp2_with fail
          refine (Left_sep h 0 rfl).mono ?_
          rintro e w5 ⟨rfl, h5⟩
          rw [HLF.out]
          have e1 : (lf != lf) = false := by simp
          clear h u0 u1
          go_wp2_with fail
          refine (Len_sep h5 0 rfl).mono ?_
          rintro e w6 ⟨rfl, h6⟩
          rw [HHR.out]
          have e2 : (hr != hr) = false := by simp
          have x0 := (h6.blk 7 rfl).cell 0
          have x1 := (h6.blk 7 rfl).cell 1
          have u0 := (h6.blk 1 rfl).cell 0
          have u1 := (h6.blk 1 rfl).cell 1
          have v0 := (h6.blk 2 rfl).cell 0
          have v1 := (h6.blk 2 rfl).cell 1
          simp at x0 x1 u0 u1 v0 v1
          clear h5
          by_cases hw0 : wh = 0
          · subst hw0
            have hclm : Bf.clampN mo = mo := by unfold Bf.clampN; rw [if_neg (by omega), if_neg (by omega)]
            rcases (by omega : N < a0 ∨ (a0 ≤ N ∧ a0 + n ≤ N) ∨ (a0 ≤ N ∧ N < a0 + n)) with ha | ⟨ha, ha'⟩ | ⟨ha, ha'⟩
            · as_aux_lemma =>
              have hin : RS.inn ⟨a0, n, cr, mo, nl, nm, tl, tm⟩ N = false := by unfold RS.inn; simp; omega
              have hadd : RS.add ⟨a0, n, cr, mo, nl, nm, tl, tm⟩ N = ⟨a0, n, cr, mo, nl, nm, tl, tm⟩ := by unfold RS.add; rw [hin]; rfl
              have HIN := Lib.hid hin
              have HAD := Lib.hid hadd
              have d1 : decide (a0 ≤ N) = false := by simp; omega
              clear hin hadd hclm
              go_wp2_with fail
              refine (Add_sep N h6 0 rfl na nb).mono ?_
              rintro e w7 ⟨rfl, h7⟩
              rw [HAD.out] at h7
              rw [HIN.out]
              clear x0 x1 u0 u1 v0 v1
              go_wp2_with fail
              go_roundg (gz - 1)
              case measure => omega
              case rel => exact ⟨k + 1, g0, g1, A0, A1, n0, n1, k0, k1, nl, nm, tl, tm, by omega, by go_num, HN0.out, HN1.out, HNM.out, HTM.out, SepO.first (l := lp b R (R + 1) g0 g1 D A0 A1 n0 n1 k0 k1 ⟨a0, n, cr, mo, nl, nm, tl, tm⟩) h7⟩
            · as_aux_lemma =>
              have hin : RS.inn ⟨a0, n, cr, mo, nl, nm, tl, tm⟩ N = false := by unfold RS.inn; simp; omega
              have hadd : RS.add ⟨a0, n, cr, mo, nl, nm, tl, tm⟩ N = ⟨a0, n, cr, mo, nl, nm, tl, tm⟩ := by unfold RS.add; rw [hin]; rfl
              have HIN := Lib.hid hin
              have HAD := Lib.hid hadd
              have d1 : decide (a0 ≤ N) = true := by simp; omega
              have d2 : decide (N < a0 + n) = false := by simp; omega
              clear hin hadd hclm
              go_wp2_with fail
              refine (Add_sep N h6 0 rfl na nb).mono ?_
              rintro e w7 ⟨rfl, h7⟩
              rw [HAD.out] at h7
              rw [HIN.out]
              clear x0 x1 u0 u1 v0 v1
              go_wp2_with fail
              go_roundg (gz - 1)
              case measure => omega
              case rel => exact ⟨k + 1, g0, g1, A0, A1, n0, n1, k0, k1, nl, nm, tl, tm, by omega, by go_num, HN0.out, HN1.out, HNM.out, HTM.out, SepO.first (l := lp b R (R + 1) g0 g1 D A0 A1 n0 n1 k0 k1 ⟨a0, n, cr, mo, nl, nm, tl, tm⟩) h7⟩
            · have hin : RS.inn ⟨a0, n, cr, mo, nl, nm, tl, tm⟩ N = true := by unfold RS.inn; simp; omega
              have HIN := Lib.hid hin
              have d1 : decide (a0 ≤ N) = true := by simp; omega
              have d2 : decide (N < a0 + n) = true := by simp; omega
              by_cases hf : (n0 : Int) < mo
              · as_aux_lemma =>
                have hadd : RS.add ⟨a0, n, cr, mo, nl, nm, tl, tm⟩ N = ⟨a0, n, cr, mo, nl ++ [N], nm, tl, tm⟩ := by unfold RS.add; rw [hin, if_pos rfl, if_pos (by rw [hclm]; simp only []; rw [HN0.out]; exact hf)]
                have HAD := Lib.hid hadd
                have d3 : decide ((n0 : Int) < mo) = true := by simpa using hf
                obtain ⟨ii, hi, hz, hs, hby⟩ := info_parts info_int
                clear hin hadd hclm
                go_wp2_with fail
                refine (Add_sep N h6 0 rfl na nb).mono ?_
                rintro e w7 ⟨rfl, h7⟩
                rw [HAD.out] at h7
                rw [HIN.out]
                have x0 := (h7.blk 7 rfl).cell 0
                have x1 := (h7.blk 7 rfl).cell 1
                have u0 := (h7.blk 1 rfl).cell 0
                simp at x0 x1 u0
                clear v0 v1 u1 h6
                go_wp2_with (at_builtin; refine wpList_append_sep rfl _ _ 26 rfl 3 ii (.int .i64 0) 8 Try.underlying26 hi hz hs hby rfl A0 n0 k0 (nl.map (Value.int .i64)) rfl w7.heap.size (.int .i64 N) rfl (h7.alloc _) 3 rfl ?c1 rfl ?c2 ?c3 ?_)
                case c1 => simp
                case c2 => omega
                case c3 => omega
                intro A' c' w8 h8
                have u8 := (h8.blk 1 rfl).cell 0
                have z8 := (h8.blk 1 rfl).frozen 0
                simp at u8
                have h9 := h8.set_blk 1 rfl 0 (.slice A' (n0 + 1) c')
                clear x0 x1 u0 h7
                go_wp2_with fail
                go_roundg (gz - 1)
                case measure => omega
                case rel =>
                  refine ⟨k + 1, g0, g1, A', A1, n0 + 1, n1, c', k1, nl ++ [N], nm, tl, tm, by omega, by go_num, by rw [List.length_append, HN0.out]; rfl, HN1.out, HNM.out, HTM.out, ?_⟩
                  have h10 := SepO.first (l := [_, _, _, _, _, _, _]) h9
                  have hm9 : (nl ++ [N]).map (Value.int .i64) = nl.map (Value.int .i64) ++ [.int .i64 N] := by simp
                  simp only [lp, hm9]
                  exact h10
              · as_aux_lemma =>
                have hjb := num_lt (w := n) (c := c) (x := N - a0) c0 (by omega) (by omega)
                rw [HK.out] at hjb
                obtain ⟨j, hj⟩ : ∃ j : Nat, (N - a0) / c = (j : Int) := ⟨((N - a0) / c).toNat, by omega⟩
                have hjK : j < K := by omega
                have hof : ((ncd ⟨a0, n, cr, mo, nl, nm, tl, tm⟩).of_ N).toNat = j := by rw [of_in (by simpa using ha) (by simpa using ha')]; simp only [HC.out]; rw [hj]; rfl
                have hadd : RS.add ⟨a0, n, cr, mo, nl, nm, tl, tm⟩ N = ⟨a0, n, cr, mo, nl, nm.set j true, tl, tm⟩ := by unfold RS.add; rw [hin, if_pos rfl, if_neg (by rw [hclm]; simp only []; rw [HN0.out]; exact hf), hof]
                have HAD := Lib.hid hadd
                have d3 : decide ((n0 : Int) < mo) = false := by simpa using hf
                clear hin hadd hclm hof hjb
                have s1 := IntWalk.i64_in (N - a0) (by omega)
                have s2 := IntWalk.i64_quo (N - a0) c (by omega)
                rw [hj] at s2
                go_wp2_with fail
                refine (Add_sep N h6 0 rfl na nb).mono ?_
                rintro e w7 ⟨rfl, h7⟩
                rw [HAD.out] at h7
                rw [HIN.out]
                have x0 := (h7.blk 7 rfl).cell 0
                have x1 := (h7.blk 7 rfl).cell 1
                have u0 := (h7.blk 1 rfl).cell 0
                have v0 := (h7.blk 2 rfl).cell 0
                simp at x0 x1 u0 v0
                have hln := pad_len (D := D) (m := nm) (by rw [HNM.out]; exact hKD)
                have y0 := (h7.blk 5 rfl).cell j
                rw [bools_get (by rw [hln]; omega)] at y0
                have z0 := (h7.blk 5 rfl).frozen j
                have h8 := fun nn => (h7.drewN nn).set_blk 5 rfl j (.bool true)
                have H8 := Lib.hid h8
                have hjD : j < D := by omega
                clear u1 v1 h6 h7 hln h8
                go_wp2_with fail
                go_region
                all_goals
                  go_wp2_with fail
                  go_roundg (gz - 1)
                  case measure => omega
                  case rel =>
                    refine ⟨k + 1, g0, g1, A0, A1, n0, n1, k0, k1, nl, nm.set j true, tl, tm, by omega, by go_num, HN0.out, HN1.out, by rw [List.length_set, HNM.out], HTM.out, ?_⟩
                    have h10 := SepO.first (l := [_, _, _, _, _, _, _]) (H8.out 1)
                    rw [bools_set, pad_set (by rw [HNM.out]; exact hjK)] at h10
                    exact h10
          · have g0' : (wh == 0) = false := by simpa using hw0
            by_cases hw1 : wh = 1
            · subst hw1
              clear hw0
              by_cases hlf : 0 < lf
              · as_aux_lemma =>
                have hfl : RS.flip ⟨a0, n, cr, mo, nl, nm, tl, tm⟩ = ⟨a0, n, cr, mo, nl, nm, tl, tm⟩ := if_pos (by rw [HLF.out]; exact hlf)
                have HFL := Lib.hid hfl
                have d1 : (lf == 0) = false := by simp; omega
                have d2 : decide (lf ≤ 0) = false := by simp; omega
                have D2 := Lib.hid d2
                clear hfl d2
                go_wp2_with fail
                refine (Flip_sep h6 0 rfl).mono ?_
                rintro e w7 ⟨rfl, h7⟩
                rw [HFL.out] at h7
                rw [HLF.out, D2.out]
                clear x0 x1 u0 u1 v0 v1
                go_wp2_with fail
                go_roundg (gz - 1)
                case measure => omega
                case rel => exact ⟨k + 1, g0, g1, A0, A1, n0, n1, k0, k1, nl, nm, tl, tm, by omega, by go_num, HN0.out, HN1.out, HNM.out, HTM.out, SepO.first (l := lp b R (R + 1) g0 g1 D A0 A1 n0 n1 k0 k1 ⟨a0, n, cr, mo, nl, nm, tl, tm⟩) h7⟩
              · as_aux_lemma =>
                have hl00 : lf = 0 := by omega
                subst hl00
                have hfl : RS.flip ⟨a0, n, cr, mo, nl, nm, tl, tm⟩ = ⟨a0, n, cr, mo, [], List.replicate K false, nl, nm⟩ := by
                  unfold RS.flip
                  rw [if_neg (by rw [HLF.out]; exact hlf)]
                  show (⟨a0, n, cr, mo, [], (Cd.none_ a0 n (Cd.clamp1 cr)).m, nl, nm⟩ : RS) = _
                  rw [HC.out, HN.out]
                have HFL := Lib.hid hfl
                clear hfl hlf
                go_wp2_with fail
                refine (Flip_sep h6 0 rfl).mono ?_
                rintro e w7 ⟨rfl, h7⟩
                rw [HFL.out] at h7
                rw [HLF.out, show decide ((0 : Int) ≤ 0) = true from rfl]
                have u0 := (h7.blk 1 rfl).cell 0
                have u1 := (h7.blk 1 rfl).cell 1
                have v0 := (h7.blk 2 rfl).cell 0
                have v1 := (h7.blk 2 rfl).cell 1
                simp at u0 u1 v0 v1
                have z0 := (h7.blk 1 rfl).frozen 1
                have z1 := (h7.blk 2 rfl).frozen 1
                have h8 := ((h7.drewN 1).set_blk 1 rfl 1 (.slice A0 n0 k0)).set_blk 2 rfl 1 (slc g0 D)
                have h8' := (((h7.set_blk 1 rfl 1 (.slice A0 n0 k0)).set_blk 2 rfl 1 (slc g0 D))).drew
                have H8 := Lib.hid h8
                have H8' := Lib.hid h8'
                clear x0 x1 h6 h7 h8 h8'
                go_wp2_with fail
                go_cut [] (fun wx => Sep w wx [Rms b ⟨a0, n, cr, mo, [], List.replicate K false, nl, nm⟩, blkP R 27 #[.slice A0 n0 k0, .slice A0 n0 k0], blkP (R + 1) 29 #[slc g0 D, slc g0 D], rowP 3 A0 n0 k0 (nl.map (Value.int .i64)), emp, blkP g0 4 (bools (pad D nm))])
                case first =>
                  as_aux_lemma =>
                  go_region
                  all_goals
                    go_wp2_with fail
                    go_meet
                    first | exact (H8.out.pick [0, 1, 2, 3, 99, 5] (by decide)) | exact (H8'.out.pick [0, 1, 2, 3, 99, 5] (by decide))
                case rest =>
                  as_aux_lemma =>
                  clear u0 u1 v0 v1 z0 z1
                  have h8 := hcut
                  clear hcut
                  have u0 := (h8.blk 1 rfl).cell 0
                  have v0 := (h8.blk 2 rfl).cell 0
                  simp at u0 v0
                  have z0 := (h8.blk 1 rfl).frozen 0
                  have z1 := (h8.blk 2 rfl).frozen 0
                  have hmk := HMK.out
                  have hqn := IntWalk.i64_quo n c (by omega)
                  have hsn := IntWalk.i64_in (n / c + 1) (by omega)
                  have hDo := HD.out
                  rw [hDo] at hsn
                  have hRl := (h8.blk_lt 1 rfl).2
                  have hMl := (h8.blk_lt 2 rfl).2
                  have hh := flip_end (k0 := k0) h8 (pad_rep hKD)
                  have HH := Lib.hid hh
                  clear hh
                  go_wp2_with fail
                  go_region
                  all_goals
                    clear hmk hqn hsn hDo hRl hMl
                    go_wp2_with fail
                    go_roundg (gz - 1)
                    case measure => omega
                    case rel =>
                      exact ⟨k + 1, _, g0, none, A0, 0, n0, 0, k0, [], List.replicate K false, nl, nm, by omega, by go_num, rfl, HN0.out, by simp, HNM.out, HH.out⟩
            · have g1' : (wh == 1) = false := by simpa using hw1
              clear hw0 hw1
              rcases (by omega : lf = 0 ∨ 0 < lf) with hl00 | hlf
              · as_aux_lemma =>
                subst hl00
                have hnn := next_none ⟨a0, n, cr, mo, nl, nm, tl, tm⟩ HLF.out
                have HNN := Lib.hid hnn
                clear hnn
                go_wp2_with fail
                refine (Next_sep h6 0 rfl).mono ?_
                rintro e w7 ⟨rfl, h7⟩
                rw [HNN.out.1]
                rw [HNN.out.2] at h7
                clear x0 x1 u0 u1 v0 v1
                go_wp2_with fail
                go_roundg (gz - 1)
                case measure => omega
                case rel => exact ⟨k + 1, g0, g1, A0, A1, n0, n1, k0, k1, nl, nm, tl, tm, by omega, by go_num, HN0.out, HN1.out, HNM.out, HTM.out, SepO.first (l := lp b R (R + 1) g0 g1 D A0 A1 n0 n1 k0 k1 ⟨a0, n, cr, mo, nl, nm, tl, tm⟩) h7⟩
              · have d1 : decide (0 < lf) = true := by simpa using hlf
                have d2 : (lf == 0) = false := by simp; omega
                cases tl with
                | cons x L =>
                  as_aux_lemma =>
                  obtain ⟨m, rfl⟩ : ∃ m, n1 = m + 1 := ⟨n1 - 1, by have := HN1.out; simp at this; omega⟩
                  have hLm : L.length = m := by have := HN1.out; simpa using this
                  have hxr := (Rms_ok h6 0 rfl).2.2.2 x (by simp)
                  simp only [] at hxr
                  obtain ⟨xr0, xr1⟩ := hxr
                  have HLM := Lib.hid hLm
                  clear hLm
                  obtain ⟨ii, hi, hz, hs, hby⟩ := info_parts info_int
                  go_wp2_with fail
                  refine (Next_sep h6 0 rfl).mono ?_
                  rintro e w7 ⟨rfl, h7⟩
                  rw [show RS.said ⟨a0, n, cr, mo, nl, nm, x :: L, tm⟩ = ((x, x + 1), (false, true)) from rfl]
                  rw [show RS.next ⟨a0, n, cr, mo, nl, nm, x :: L, tm⟩ = ⟨a0, n, cr, mo, nl, nm, L, tm⟩ from rfl] at h7
                  obtain ⟨oq, hq, _⟩ := h7.row 4 rfl
                  obtain ⟨g, off, rfl, _, _, hcell, _⟩ := hq.at_ (i := 0) (by omega)
                  have y0 := hcell 0 (by omega)
                  simp at y0
                  have u1 := (h7.blk 1 rfl).cell 1
                  simp at u1
                  have z1 := (h7.blk 1 rfl).frozen 1
                  obtain ⟨A9, hA9⟩ : ∃ A9, (if k1 = 1 then some ⟨g, off, none⟩ else (some ⟨g, off, none⟩ : Option Addr).map (·.add 1)) = A9 := ⟨_, rfl⟩
                  obtain ⟨k9, hk9⟩ : ∃ k9, k1 - 1 = k9 := ⟨_, rfl⟩
                  have hsl : ∀ W : World, (Instr.slice 26 (.slice (some ⟨g, off, none⟩) (m + 1) k1) (some (.int .i64 1)) none none).run Try.prog W = .ok (.slice A9 m k9) W := by
                    intro W
                    rw [← hA9, ← hk9]
                    exact run_cut1 Try.underlying26 hi hs (some ⟨g, off, none⟩) (m + 1) k1 (by omega) W
                  have h8 := (h7.row_tail 4 rfl (by omega)).set_blk 1 rfl 1 (.slice A9 m k9)
                  rw [hA9, hk9] at h8
                  have H8 := Lib.hid h8
                  have e3 : (x != x) = false := by simp
                  have e4 : (x + 1 != x + 1) = false := by simp
                  clear h8 hA9 hk9 hq hcell h6 x0 x1 u0 v0 v1
                  have hm9 : (m : Int) ≤ 1048576 := by
                    have h9 := (Rms_b h7 0 rfl).1
                    unfold RS.left at h9
                    simp only [] at h9
                    rw [HLM.out] at h9
                    have h10 := HN1.out
                    have h11 := Bfr_tl h7 0 rfl
                    simp only [] at h11
                    rw [HLM.out] at h11
                    omega
                  clear h7
                  go_wp2_with fail
                  go_roundg (gz - 1)
                  case measure => omega
                  case rel =>
                    refine ⟨k + 1, g0, g1, A0, A9, n0, m, k0, k9, nl, nm, L, tm, by omega, by go_num, HN0.out, HLM.out, HNM.out, HTM.out, ?_⟩
                    have h10 := SepO.first (l := [_, _, _, _, _, _, _]) H8.out
                    exact h10
                | nil =>
                  as_aux_lemma =>
                  have hn10 : n1 = 0 := HN1.out.symm
                  subst hn10
                  cases hfs : fstI tm with
                  | none =>
                    have h1 := none_cnt (hfs ▸ fstI_spec tm)
                    have h2 := HLF.out
                    unfold RS.left at h2
                    simp only [h1] at h2
                    simp at h2
                    omega
                  | some q =>
                    have hspec := fstI_spec tm
                    rw [hfs] at hspec
                    obtain ⟨f1, f2, f3, f4⟩ := hspec
                    rw [HTM.out] at f2
                    have hq9 : (q : Int) < K := by omega
                    have hK0 := HK.out
                    have hpb := part_b (s := ⟨a0, n, c, tm⟩) ⟨p00, (by omega : a0 ≤ 1048576), r10, (by omega : n ≤ 1048576), c0, (by omega : c ≤ 1048576), (by show ((tm.length : Nat) : Int) = Cd.num n c; rw [HTM.out, hK0])⟩ (k := (q : Int)) (by omega) (by show (q : Int) < ((tm.length : Nat) : Int); rw [HTM.out]; exact hq9)
                    simp only [] at hpb
                    obtain ⟨t0, t1, t2⟩ := hpb
                    have hsaid : RS.said ⟨a0, n, cr, mo, nl, nm, [], tm⟩ = ((a0 + (q : Int) * c, a0 + (if n < (q : Int) * c + c then n else (q : Int) * c + c)), (true, true)) := by
                      simp only [RS.said, hfs, Cd.part]
                      rw [if_pos ⟨by omega, by rw [HTM.out]; exact hq9⟩]
                      simp only [HC.out]
                      rw [t2]
                    have hnext : RS.next ⟨a0, n, cr, mo, nl, nm, [], tm⟩ = ⟨a0, n, cr, mo, nl, nm, [], tm.set q false⟩ := by simp only [RS.next, hfs]
                    obtain ⟨x, hxx⟩ : ∃ x, (q : Int) * c = x := ⟨_, rfl⟩
                    rw [hxx] at hsaid t0 t1
                    obtain ⟨M2, hM2⟩ : ∃ M2, (if n < x + c then n else x + c) = M2 := ⟨_, rfl⟩
                    rw [hM2] at hsaid
                    have HSD := Lib.hid hsaid
                    have HNX := Lib.hid hnext
                    have HXX := Lib.hid hxx
                    have HM2 := Lib.hid hM2
                    have HF4 := Lib.hid f4
                    have HF3 := Lib.hid f3
                    clear hsaid hnext hxx hM2 f4 f3 f1 t2 hfs hK0 hq9
                    go_wp2_with fail
                    refine (Next_sep h6 0 rfl).mono ?_
                    rintro e w7 ⟨rfl, h7⟩
                    rw [HSD.out]
                    rw [HNX.out] at h7
                    have u1 := (h7.blk 1 rfl).cell 1
                    simp at u1
                    clear x0 x1 u0 v0 v1 h6
                    go_wp2_with fail
                    go_loopg [28] (q + 1) (fun gj z wx => ∃ j : Nat, j + gj = q + 1 ∧ j ≤ q ∧ z = .int .i64 j ∧ Sep w wx (([_, _, _, _, _, _, _, _] : List Pr)))
                    case atStart => exact ⟨0, by omega, by omega, rfl, h7⟩
                    case round =>
                      clear h7 u1
                      obtain ⟨j, hj, hjq, rfl, h⟩ := hrel
                      have HJ := Lib.hid hj
                      clear hj
                      have v1 := (h.blk 2 rfl).cell 1
                      simp at v1
                      have hlt := pad_len (D := D) (m := tm) (by rw [HTM.out]; exact hKD)
                      have y1 := (h.blk 6 rfl).cell j
                      rw [bools_get (by rw [hlt]; omega), pad_get] at y1
                      have hjD : j < D := by omega
                      by_cases hjl : j < q
                      · have hv := HF4.out j (by simp) hjl
                        rw [hv] at y1
                        clear hv hlt
                        go_wp2_with fail
                        go_roundg (gk - 1)
                        case measure => have := HJ.out; omega
                        case rel => exact ⟨j + 1, by have := HJ.out; omega, by omega, by go_num, h⟩
                      · have hje : j = q := by omega
                        subst hje
                        rw [HF3.out] at y1
                        have z1 := (h.blk 6 rfl).frozen j
                        have h8 := h.set_blk 6 rfl j (.bool false)
                        rw [bools_set, pad_set (by rw [HTM.out]; exact f2)] at h8
                        have H8 := Lib.hid h8
                        have hxx := HXX.out
                        have s1 := IntWalk.i64_in x (by omega)
                        have s2 := IntWalk.i64_in (a0 + x) (by omega)
                        have s3 := IntWalk.i64_in (a0 + x + c) (by omega)
                        have e3 : (a0 + x != a0 + x) = false := by simp
                        have hm2 := HM2.out
                        clear hlt h8 h hjl
                        by_cases hcl : n < x + c
                        · rw [if_pos hcl] at hm2
                          rw [← hm2]
                          have e4 : (a0 + n != a0 + n) = false := by simp
                          have e5 : decide (a0 + n < a0 + x + c) = true := by simp; omega
                          clear hm2
                          go_wp2_with fail
                          go_roundg (gz - 1)
                          case measure => omega
                          case rel =>
                            refine ⟨k + 1, g0, g1, A0, A1, n0, 0, k0, k1, nl, nm, [], tm.set j false, by omega, by go_num, HN0.out, rfl, HNM.out, by rw [List.length_set, HTM.out], ?_⟩
                            exact SepO.first (l := [_, _, _, _, _, _, _]) H8.out
                        · rw [if_neg hcl] at hm2
                          rw [← hm2, show a0 + (x + c) = a0 + x + c from by omega]
                          have e4 : (a0 + x + c != a0 + x + c) = false := by simp
                          have e5 : decide (a0 + n < a0 + x + c) = false := by simp; omega
                          clear hm2
                          go_wp2_with fail
                          go_roundg (gz - 1)
                          case measure => omega
                          case rel =>
                            refine ⟨k + 1, g0, g1, A0, A1, n0, 0, k0, k1, nl, nm, [], tm.set j false, by omega, by go_num, HN0.out, rfl, HNM.out, by rw [List.length_set, HTM.out], ?_⟩
                            exact SepO.first (l := [_, _, _, _, _, _, _]) H8.out
    · as_aux_lemma =>
      rcases (by omega : ¬ k < l1.length ∨ (k < l1.length ∧ ¬ k < 80)) with hx | ⟨hx, hx'⟩
      all_goals
        clear hc
        go_wp2_with fail
        refine (awake_sep h).mono ?_
        rintro e w6 ⟨rfl, h6⟩
        go_wp2_with fail
        go_ret
        exact ⟨by simp, h6.below⟩
end Go.Proofs.Ytpohemiejbjpnaa.Re
