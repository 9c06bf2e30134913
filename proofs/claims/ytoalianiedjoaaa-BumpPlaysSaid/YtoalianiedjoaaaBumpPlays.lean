/- BumpPlays as a contract. Condition: the list reads as a list. -/
import Derived.Test.YtoalianiedjoaaaBumpAt
import Derived.Test.YtoalianiedjoaaaStructs
import Derived.Deep.DeepCutAuto
import Derived.Deep.CutBlock
import Derived.Deep.LoopGhost
import Derived.Test.YtoalianiedjoaaaCls
import Derived.Deep.RegionHeld3
import Derived.IntWalk
set_option linter.unusedVariables false
set_option linter.unusedSimpArgs false
namespace Go.Proofs.Ytoalianiedjoaaa.Bp
open Go.RowKit Go.Proofs.Ytoalianiedjoaaa.W Go.Proofs.Ytoalianiedjoaaa.Sm

theorem cut_clamp (n : Int) : cut n 0 1048576 = clampN n := rfl

/-- The heads of the two halves, what is used in each, the block of the law's own two numbers. -/
def PlRel (W w : World) (b G : Nat) (f m : Int) (u0 u1 : Int) (nw : Bool) : Prop :=
  SRep w (fun i => i = b) b ⟨f, u0, f + m, u1, m, nw⟩ ∧ Blk w G 38 #[.int .i64 u0, .int .i64 u1] ∧ Keep (fun _ => False) W w ∧ W.heap.size ≤ b ∧ W.heap.size ≤ G ∧ b ≠ G
theorem PlRel.alloc {W w : World} {b G : Nat} {f m u0 u1 : Int} {nw : Bool} (h : PlRel W w b G f m u0 u1 nw) (o : Obj) : PlRel W (w.alloc o) b G f m u0 u1 nw :=
  ⟨⟨h.1.1, h.1.2.1, h.1.2.2.alloc o⟩, h.2.1.alloc o, h.2.2.1.alloc o, h.2.2.2⟩
theorem PlRel.sizes {W w : World} {b G : Nat} {f m u0 u1 : Int} {nw : Bool} (h : PlRel W w b G f m u0 u1 nw) : b < w.heap.size ∧ G < w.heap.size ∧ W.heap.size ≤ w.heap.size :=
  ⟨h.1.2.2.lt, h.2.1.lt, h.2.2.1.size⟩
theorem PlRel.set0 {W w : World} {b G : Nat} {f m u0 u1 v0 v1 x : Int} {nw : Bool} (h : SRep w (fun i => i = b) b ⟨f, v0, f + m, v1, m, nw⟩) (hG : Blk w G 38 #[.int .i64 u0, .int .i64 u1]) (hk : Keep (fun _ => False) W w) (h1 : W.heap.size ≤ b) (h2 : W.heap.size ≤ G) (h3 : b ≠ G) (e0 : x = v0) (e1 : u1 = v1) :
    PlRel W (w.setCell ⟨G, 0, none⟩ (.int .i64 x)) b G f m v0 v1 nw := by
  subst e0 e1
  exact ⟨⟨rfl, h.2.1, h.2.2.far h3 _⟩, by simpa using hG.set_ 0 (.int .i64 x), hk.set_ (.inr h2) _, h1, h2, h3⟩
theorem PlRel.set1 {W w : World} {b G : Nat} {f m u0 u1 v0 v1 x : Int} {nw : Bool} (h : SRep w (fun i => i = b) b ⟨f, v0, f + m, v1, m, nw⟩) (hG : Blk w G 38 #[.int .i64 u0, .int .i64 u1]) (hk : Keep (fun _ => False) W w) (h1 : W.heap.size ≤ b) (h2 : W.heap.size ≤ G) (h3 : b ≠ G) (e0 : u0 = v0) (e1 : x = v1) :
    PlRel W (w.setCell ⟨G, 1, none⟩ (.int .i64 x)) b G f m v0 v1 nw := by
  subst e0 e1
  exact ⟨⟨rfl, h.2.1, h.2.2.far h3 _⟩, by simpa using hG.set_ 1 (.int .i64 x), hk.set_ (.inr h2) _, h1, h2, h3⟩

theorem Used_q {ok : Nat → Prop} {b : Nat} {s : Sp} {v : Int} (w : World) (hr : SRep w ok b s) (hv : s.used = v) :
    Calls Try.prog 18 #[.pointer (some ⟨b, 0, none⟩)] w fun e w' => e = .returned (.int .i64 v) ∧ ∃ n, w' = w.drewN n := hv ▸ Used_calls w hr
theorem Left_q {ok : Nat → Prop} {b : Nat} {s : Sp} {v : Int} (w : World) (hr : SRep w ok b s) (hv : s.left = v) :
    Calls Try.prog 19 #[.pointer (some ⟨b, 0, none⟩)] w fun e w' => e = .returned (.int .i64 v) ∧ ∃ n, w' = w.drewN n := hv ▸ Left_calls w hr
theorem Room_q {ok : Nat → Prop} {b : Nat} {s : Sp} {v : Int} (w : World) (hr : SRep w ok b s) (hv : s.room = v) :
    Calls Try.prog 21 #[.pointer (some ⟨b, 0, none⟩)] w fun e w' => e = .returned (.int .i64 v) ∧ ∃ n, w' = w.drewN n := hv ▸ Room_calls w hr
/-- All that a round has: the space, the law's two numbers, the box of what is to be done. -/
def PlF (W : World) (b G X : Nat) (s : Sp) (wh n : Int) (w : World) : Prop :=
  SRep w (fun i => i = b) b s ∧ Blk w G 38 #[.int .i64 s.u0, .int .i64 s.u1] ∧ Blk w X 40 #[.int .i64 wh, .int .i64 n] ∧ Keep (fun _ => False) W w
def PlS (W : World) (b G X : Nat) (s : Sp) (wh n : Int) (w : World) : Prop :=
  (w.cell? ⟨X, 1, none⟩ = some (.int .i64 n) ∧ w.cell? ⟨G, 0, none⟩ = some (.int .i64 s.u0) ∧ w.cell? ⟨G, 1, none⟩ = some (.int .i64 s.u1)) ∧ PlF W b G X s wh n w
section
variable {W w : World} {b G X : Nat} {s : Sp} {wh n : Int}
theorem PlF.pls (h : PlF W b G X s wh n w) : PlS W b G X s wh n w := by
  refine ⟨⟨?_, ?_, ?_⟩, h⟩
  · simpa using h.2.2.1.cell 1
  · simpa using h.2.1.cell 0
  · simpa using h.2.1.cell 1
theorem PlF.drew (h : PlF W b G X s wh n w) : PlF W b G X s wh n w.drew := ⟨h.1, h.2.1, h.2.2.1, h.2.2.2.drew⟩
theorem PlF.stay {w' : World} (h : PlF W b G X s wh n w) (k : Keep (fun _ => False) w w') : PlF W b G X s wh n w' :=
  ⟨h.1.keep k (fun _ _ h => h), k.blk h.2.1 (fun h => h), k.blk h.2.2.1 (fun h => h), h.2.2.2.trans k (fun i h => .inl h)⟩
theorem In_f (a : Int) (h : PlF W b G X s wh n w) (ha9 : a ≤ 9223372036854775807) (r : Bool) (hr : s.isIn a = r) : Calls Try.prog 14 #[.pointer (some ⟨b, 0, none⟩), .int .i64 a] w fun e w' => e = .returned (.bool r) ∧ PlF W b G X s wh n w' :=
  (In_calls a w h.1 ha9).mono fun e w' ⟨he, hk⟩ => ⟨hr ▸ he, h.stay hk⟩
theorem From_f (a : Int) (h : PlF W b G X s wh n w) (ha9 : a ≤ 9223372036854775807) (r : Bool) (hr : s.isFrom a = r) : Calls Try.prog 15 #[.pointer (some ⟨b, 0, none⟩), .int .i64 a] w fun e w' => e = .returned (.bool r) ∧ PlF W b G X s wh n w' :=
  (From_calls a w h.1 ha9).mono fun e w' ⟨he, hk⟩ => ⟨hr ▸ he, h.stay hk⟩
end
theorem SRep.drew {w : World} {ok : Nat → Prop} {b : Nat} {s : Sp} (h : SRep w ok b s) : SRep w.drew ok b s := h

set_option maxHeartbeats 8000000 in
set_option maxRecDepth 100000 in
theorem Plays_calls {v1 : Value} {l1 : List A2} (f m : Int) (w : World) (g1 : SS w (fun i => i < w.heap.size) A2.cells 2 v1 l1) (q1 : ∀ x ∈ l1, A2.wf x) :
    Calls Try.prog 6 #[.int .i64 f, .int .i64 m, v1] w fun e w' => e = .returned (.bool true) ∧ Below w.heap.size w w' := by
  obtain ⟨A1, c1, rfl, hm1, hc1⟩ := g1
  have HC1 := Lib.hid hc1
  have Q1 := Lib.hid q1
  clear hc1 q1
  have bf := clampN_b f
  have bm := clampN_b m
  go_enter Try.func6, Try.ntmps6
  go_wp2_with fail
  refine (New_calls f m w).mono ?_
  rintro e w1 ⟨b, rfl, h1, k1⟩
  go_wp2_with fail
  refine (Cut_calls f 0 1048576 w1).mono ?_
  rintro e w2 ⟨rfl, rfl⟩
  go_wp2_with fail
  refine (Cut_calls m 0 1048576 w1).mono ?_
  rintro e w2 ⟨rfl, rfl⟩
  rw [cut_clamp, cut_clamp]
  generalize clampN f = F at h1 bf ⊢
  generalize clampN m = M at h1 bm ⊢
  obtain ⟨bf0, bf1⟩ := bf
  obtain ⟨bm0, bm1⟩ := bm
  have hb := h1.1
  have hbl := h1.2.2.lt
  have h2 : PlRel w (w1.alloc (.cells #[.int .i64 0, .int .i64 0] 38)) b w1.heap.size F M 0 0 false := by
    have hk := (Keep.refl (fun _ => False) w1).alloc (.cells #[.int .i64 0, .int .i64 0] 38)
    refine ⟨⟨rfl, h1.2.1, hk.blk h1.2.2 (fun h => h)⟩, Blk.new w1 _ _, k1.alloc _, hb, k1.size, by omega⟩
  obtain ⟨G, hG⟩ : ∃ G, w1.heap.size = G := ⟨_, rfl⟩
  rw [hG] at h2
  clear h1 k1 hb hbl
  go_wp2_with fail
  clear hG
  go_loopg [11, 12] 80 (fun gk x i wr => ∃ (k : Nat) (u0 u1 : Int) (nw : Bool), k + gk = 80 ∧ i = .int .i64 k ∧ x = .int .i64 (if nw then 1 else 0) ∧ PlRel w wr b G F M u0 u1 nw)
  case atStart => exact ⟨0, 0, 0, false, rfl, rfl, rfl, h2⟩
  case round =>
    clear h2
    obtain ⟨k, u0, u1, nw, hk, rfl, rfl, hr⟩ := hrel
    by_cases hc : k < l1.length ∧ k < 80
    · obtain ⟨hl1, hl2⟩ := hc
      obtain ⟨b1, o1, rfl, hb1, hlt1, hcell1⟩ := HC1.out (by omega)
      obtain ⟨⟨wh, n⟩, hx⟩ : ∃ x, l1[k]? = some x := ⟨l1[k], List.getElem?_eq_getElem hl1⟩
      have hwf := Q1.out _ (List.mem_of_getElem? hx)
      obtain ⟨⟨wa, wb⟩, ⟨na, nb⟩⟩ := hwf
      simp only [] at wa wb na nb
      have d0 : wr.cell? ⟨b1, o1 + k * 2, none⟩ = some (.int .i64 wh) := (World.cell?_of_block (hr.2.2.1.block b1 hlt1 (fun h => h))).trans (hcell1 k _ hx 0 _ rfl)
      have d1 : wr.cell? ⟨b1, o1 + k * 2 + 1, none⟩ = some (.int .i64 n) := (World.cell?_of_block (hr.2.2.1.block b1 hlt1 (fun h => h))).trans (hcell1 k _ hx 1 _ rfl)
      clear hcell1 hx
      have hX0 := Blk.new wr 40 #[.int .i64 wh, .int .i64 n]
      have hr0 := PlRel.alloc hr (.cells #[.int .i64 wh, .int .i64 n] 40)
      obtain ⟨X, hX⟩ : ∃ X, wr.heap.size = X := ⟨_, rfl⟩
      have hXs := hr.sizes
      rw [hX] at hX0 hXs
      obtain ⟨hXb, hXG, hXw⟩ := hXs
      go_upto_block 2 with fail
      generalize wr.alloc (.cells #[.int .i64 wh, .int .i64 n] 40) = w2 at hX0 hr0 ⊢
      clear hX d0 d1 hr
      go_cut [11] (fun x wx => ∃ (u0' u1' : Int) (nw' : Bool), x = .int .i64 (if nw' then 1 else 0) ∧ PlRel w wx b G F M u0' u1' nw' ∧ Blk wx X 40 #[.int .i64 wh, .int .i64 n])
      case first =>
        cases nw
        ·
          obtain ⟨hs, hG, hkp, hwb, hwG, hbG⟩ := hr0
          have hs' := hs
          obtain ⟨_, hok, _⟩ := hs'
          unfold Sp.ok at hok
          simp only [] at hok
          obtain ⟨_, _, _, _, _, o5, o6, o7, o8⟩ := hok
          have x1 := hX0.cell 1
          simp at x1
          have c0 := hG.cell 0
          have c1 := hG.cell 1
          simp at c0 c1
          have z0 := hG.frozen 0
          have z1 := hG.frozen 1
          rcases (by omega : (wh = 0 ∧ n < 1) ∨ (wh = 0 ∧ 1 ≤ n ∧ n ≤ M - u0) ∨ (wh = 0 ∧ 1 ≤ n ∧ M - u0 < n) ∨ (wh = 1 ∧ u1 = 0) ∨ (wh = 1 ∧ 0 < u1) ∨ (wh = 2 ∧ u1 = 0) ∨ (wh = 2 ∧ 0 < u1) ∨ (wh ≠ 0 ∧ wh ≠ 1 ∧ wh ≠ 2)) with ⟨rfl, hn⟩ | ⟨rfl, hn, hn'⟩ | ⟨rfl, hn, hn'⟩ | ⟨rfl, rfl⟩ | ⟨rfl, hn⟩ | ⟨rfl, rfl⟩ | ⟨rfl, hn⟩ | ⟨hw0, hw1, hw2⟩
          · as_aux_lemma =>
            have hfit : Sp.fits ⟨F, u0, F + M, u1, M, false⟩ n = false := by simp [Sp.fits, Sp.room, Sp.used]; omega
            have HF := Lib.hid hfit
            clear hfit
            have hd : decide (1 ≤ n) = false := by simp; omega
            go_wp2_with fail
            refine (Take_calls n w2 hs).mono ?_
            rintro e w3 ⟨rfl, hs3, hk3⟩
            rw [Sp.take, HF.out] at hs3
            rw [HF.out]
            have hX3 := hk3.blk hX0 (by omega)
            have hG3 := hk3.blk hG (by omega)
            have hkp3 := hkp.trans hk3 (fun i h => .inr (by omega))
            have x3 := hX3.cell 1
            simp at x3
            have y0 := hG3.cell 0
            have y1 := hG3.cell 1
            simp at y0 y1
            have v0 := hG3.frozen 0
            have v1 := hG3.frozen 1
            clear hs hG hkp hX0 x1 c0 c1 z0 z1 hk3
            simp only [if_true, if_false, Bool.false_eq_true, Sp.here, Sp.used] at hs3 ⊢
            go_wp2_with fail
            go_quiet (fail)
            go_wp2_with fail
            go_meet
            exact ⟨u0, u1, false, rfl, ⟨hs3.drewN _, hG3.drewN _, hkp3.drewN _, hwb, hwG, hbG⟩, hX3.drewN _⟩
          · as_aux_lemma =>
            have hfit : Sp.fits ⟨F, u0, F + M, u1, M, false⟩ n = true := by simp [Sp.fits, Sp.room, Sp.used]; omega
            have HF := Lib.hid hfit
            clear hfit
            have hd : decide (1 ≤ n) = true := by simp; omega
            have hd2 : decide (n ≤ M - u0) = true := by simp; omega
            go_wp2_with fail
            refine (Take_calls n w2 hs).mono ?_
            rintro e w3 ⟨rfl, hs3, hk3⟩
            rw [Sp.take, HF.out] at hs3
            rw [HF.out]
            have hX3 := hk3.blk hX0 (by omega)
            have hG3 := hk3.blk hG (by omega)
            have hkp3 := hkp.trans hk3 (fun i h => .inr (by omega))
            have x3 := hX3.cell 1
            simp at x3
            have y0 := hG3.cell 0
            have y1 := hG3.cell 1
            simp at y0 y1
            have v0 := hG3.frozen 0
            have v1 := hG3.frozen 1
            clear hs hG hkp hX0 x1 c0 c1 z0 z1 hk3
            simp only [if_true, if_false, Bool.false_eq_true, Sp.here, Sp.used] at hs3 ⊢
            go_wp2_with fail
            go_quiet (fail)
            go_wp2_with fail
            go_region
            all_goals
              go_wp2_with fail
              go_meet
              exact ⟨u0 + n, u1, false, rfl, PlRel.set0 (hs3.drewN _) (hG3.drewN _) (hkp3.drewN _) hwb hwG hbG rfl rfl, (hX3.drewN _).far (by simp; omega) _⟩
          · as_aux_lemma =>
            have hfit : Sp.fits ⟨F, u0, F + M, u1, M, false⟩ n = false := by simp [Sp.fits, Sp.room, Sp.used]; omega
            have HF := Lib.hid hfit
            clear hfit
            have hd : decide (1 ≤ n) = true := by simp; omega
            have hd2 : decide (n ≤ M - u0) = false := by simp; omega
            go_wp2_with fail
            refine (Take_calls n w2 hs).mono ?_
            rintro e w3 ⟨rfl, hs3, hk3⟩
            rw [Sp.take, HF.out] at hs3
            rw [HF.out]
            have hX3 := hk3.blk hX0 (by omega)
            have hG3 := hk3.blk hG (by omega)
            have hkp3 := hkp.trans hk3 (fun i h => .inr (by omega))
            have x3 := hX3.cell 1
            simp at x3
            have y0 := hG3.cell 0
            have y1 := hG3.cell 1
            simp at y0 y1
            have v0 := hG3.frozen 0
            have v1 := hG3.frozen 1
            clear hs hG hkp hX0 x1 c0 c1 z0 z1 hk3
            simp only [if_true, if_false, Bool.false_eq_true, Sp.here, Sp.used] at hs3 ⊢
            go_wp2_with fail
            go_quiet (fail)
            go_wp2_with fail
            go_meet
            exact ⟨u0, u1, false, rfl, ⟨hs3.drewN _, hG3.drewN _, hkp3.drewN _, hwb, hwG, hbG⟩, hX3.drewN _⟩
          · as_aux_lemma =>
            have hfl : Sp.flip ⟨F, u0, F + M, 0, M, false⟩ = ⟨F, u0, F + M, 0, M, true⟩ := by simp [Sp.flip, Sp.left, *]
            have hle : decide (Sp.left ⟨F, u0, F + M, 0, M, false⟩ ≤ 0) = true := by simp [Sp.left, *]
            have HL := Lib.hid hfl
            have HE := Lib.hid hle
            clear hfl hle
            go_wp2_with fail
            refine (Flip_calls w2 hs).mono ?_
            rintro e w3 ⟨rfl, hs3, hk3⟩
            rw [HL.out] at hs3
            rw [HE.out]
            have hX3 := hk3.blk hX0 (by omega)
            have hG3 := hk3.blk hG (by omega)
            have hkp3 := hkp.trans hk3 (fun i h => .inr (by omega))
            go_wp2_with fail
            go_meet
            exact ⟨u0, 0, true, rfl, ⟨hs3, hG3, hkp3, hwb, hwG, hbG⟩, hX3⟩
          · as_aux_lemma =>
            have hne : (u1 == 0) = false := by simp; omega
            have hfl : Sp.flip ⟨F, u0, F + M, u1, M, false⟩ = ⟨F, u0, F + M, u1, M, false⟩ := by simp [Sp.flip, Sp.left, hn]
            have hle : decide (Sp.left ⟨F, u0, F + M, u1, M, false⟩ ≤ 0) = false := by simp [Sp.left, hn]
            have HL := Lib.hid hfl
            have HE := Lib.hid hle
            clear hfl hle
            go_wp2_with fail
            refine (Flip_calls w2 hs).mono ?_
            rintro e w3 ⟨rfl, hs3, hk3⟩
            rw [HL.out] at hs3
            rw [HE.out]
            have hX3 := hk3.blk hX0 (by omega)
            have hG3 := hk3.blk hG (by omega)
            have hkp3 := hkp.trans hk3 (fun i h => .inr (by omega))
            go_wp2_with fail
            go_meet
            exact ⟨u0, u1, false, rfl, ⟨hs3, hG3, hkp3, hwb, hwG, hbG⟩, hX3⟩
          · as_aux_lemma =>
            have hfl : Sp.drop ⟨F, u0, F + M, 0, M, false⟩ = ⟨F, u0, F + M, 0, M, false⟩ := by simp [Sp.drop]
            have hle : decide (0 < Sp.left ⟨F, u0, F + M, 0, M, false⟩) = false := by simp [Sp.left, *]
            have HL := Lib.hid hfl
            have HE := Lib.hid hle
            clear hfl hle
            go_wp2_with fail
            replace hs := SRep.drew hs
            replace hX0 := hX0.drew
            replace hG := hG.drew
            replace hkp := hkp.drew
            have i0 : IntKind.i64.wrap 0 = 0 := by decide
            have i1 : IntKind.i64.wrap 1 = 1 := by decide
            have i2 : IntKind.i64.wrap (1 - 0) = 1 := by decide
            have i3 : IntKind.i64.wrap (1 - 1) = 0 := by decide
            go_region_held3 (fun w' => w'.cell? ⟨G, 0, none⟩ = some (.int .i64 u0) ∧ w'.cell? ⟨G, 1, none⟩ = some (.int .i64 0)) ((first | exact ⟨c0, c1⟩ | exact ⟨y0, y1⟩)) ((go_at_call 22; refine (Drop_calls _ hs).mono ?_; rintro e w3 ⟨rfl, hs3, hk3⟩; rw [HL.out] at hs3; rw [HE.out]; have hX3 := hk3.blk hX0 (by omega); have hG3 := hk3.blk hG (by omega); have hkp3 := hkp.trans hk3 (fun i h => .inr (by omega)); have y0 := hG3.cell 0; have y1 := hG3.cell 1; simp at y0 y1; have v0 := hG3.frozen 0; have v1 := hG3.frozen 1))
            all_goals
              go_wp2_with fail
              (try (go_meet; exact ⟨u0, 0, false, rfl, PlRel.set1 hs3 hG3 hkp3 hwb hwG hbG rfl rfl, hX3.far (by simp; omega) _⟩))

          · as_aux_lemma =>
            have hne : decide (0 < u1) = true := by simp; omega
            have hfl : Sp.drop ⟨F, u0, F + M, u1, M, false⟩ = ⟨F, u0, F + M, 0, M, false⟩ := by simp [Sp.drop]
            have hle : decide (0 < Sp.left ⟨F, u0, F + M, u1, M, false⟩) = true := by simp [Sp.left, hn]
            have HL := Lib.hid hfl
            have HE := Lib.hid hle
            clear hfl hle
            go_wp2_with fail
            replace hs := SRep.drew hs
            replace hX0 := hX0.drew
            replace hG := hG.drew
            replace hkp := hkp.drew
            have i0 : IntKind.i64.wrap 0 = 0 := by decide
            have i1 : IntKind.i64.wrap 1 = 1 := by decide
            have i2 : IntKind.i64.wrap (1 - 0) = 1 := by decide
            have i3 : IntKind.i64.wrap (1 - 1) = 0 := by decide
            go_region_held3 (fun w' => w'.cell? ⟨G, 0, none⟩ = some (.int .i64 u0) ∧ w'.cell? ⟨G, 1, none⟩ = some (.int .i64 u1)) ((first | exact ⟨c0, c1⟩ | exact ⟨y0, y1⟩)) ((go_at_call 22; refine (Drop_calls _ hs).mono ?_; rintro e w3 ⟨rfl, hs3, hk3⟩; rw [HL.out] at hs3; rw [HE.out]; have hX3 := hk3.blk hX0 (by omega); have hG3 := hk3.blk hG (by omega); have hkp3 := hkp.trans hk3 (fun i h => .inr (by omega)); have y0 := hG3.cell 0; have y1 := hG3.cell 1; simp at y0 y1; have v0 := hG3.frozen 0; have v1 := hG3.frozen 1))
            all_goals
              go_wp2_with fail
              (try (go_meet; exact ⟨u0, 0, false, rfl, PlRel.set1 hs3 hG3 hkp3 hwb hwG hbG rfl rfl, hX3.far (by simp; omega) _⟩))

          · as_aux_lemma =>
            have g0 : (wh == 0) = false := by simpa using hw0
            have g1 : (wh == 1) = false := by simpa using hw1
            have g2 : (wh == 2) = false := by simpa using hw2
            go_wp2_with fail
            go_meet
            exact ⟨u0, u1, false, rfl, ⟨hs, hG, hkp, hwb, hwG, hbG⟩, hX0⟩
        ·
          obtain ⟨hs, hG, hkp, hwb, hwG, hbG⟩ := hr0
          have hs' := hs
          obtain ⟨_, hok, _⟩ := hs'
          unfold Sp.ok at hok
          simp only [] at hok
          obtain ⟨_, _, _, _, _, o5, o6, o7, o8⟩ := hok
          have x1 := hX0.cell 1
          simp at x1
          have c0 := hG.cell 0
          have c1 := hG.cell 1
          simp at c0 c1
          have z0 := hG.frozen 0
          have z1 := hG.frozen 1
          rcases (by omega : (wh = 0 ∧ n < 1) ∨ (wh = 0 ∧ 1 ≤ n ∧ n ≤ M - u1) ∨ (wh = 0 ∧ 1 ≤ n ∧ M - u1 < n) ∨ (wh = 1 ∧ u0 = 0) ∨ (wh = 1 ∧ 0 < u0) ∨ (wh = 2 ∧ u0 = 0) ∨ (wh = 2 ∧ 0 < u0) ∨ (wh ≠ 0 ∧ wh ≠ 1 ∧ wh ≠ 2)) with ⟨rfl, hn⟩ | ⟨rfl, hn, hn'⟩ | ⟨rfl, hn, hn'⟩ | ⟨rfl, rfl⟩ | ⟨rfl, hn⟩ | ⟨rfl, rfl⟩ | ⟨rfl, hn⟩ | ⟨hw0, hw1, hw2⟩
          · as_aux_lemma =>
            have hfit : Sp.fits ⟨F, u0, F + M, u1, M, true⟩ n = false := by simp [Sp.fits, Sp.room, Sp.used]; omega
            have HF := Lib.hid hfit
            clear hfit
            have hd : decide (1 ≤ n) = false := by simp; omega
            go_wp2_with fail
            refine (Take_calls n w2 hs).mono ?_
            rintro e w3 ⟨rfl, hs3, hk3⟩
            rw [Sp.take, HF.out] at hs3
            rw [HF.out]
            have hX3 := hk3.blk hX0 (by omega)
            have hG3 := hk3.blk hG (by omega)
            have hkp3 := hkp.trans hk3 (fun i h => .inr (by omega))
            have x3 := hX3.cell 1
            simp at x3
            have y0 := hG3.cell 0
            have y1 := hG3.cell 1
            simp at y0 y1
            have v0 := hG3.frozen 0
            have v1 := hG3.frozen 1
            clear hs hG hkp hX0 x1 c0 c1 z0 z1 hk3
            simp only [if_true, if_false, Bool.false_eq_true, Sp.here, Sp.used] at hs3 ⊢
            go_wp2_with fail
            go_quiet (fail)
            go_wp2_with fail
            go_meet
            exact ⟨u0, u1, true, rfl, ⟨hs3.drewN _, hG3.drewN _, hkp3.drewN _, hwb, hwG, hbG⟩, hX3.drewN _⟩
          · as_aux_lemma =>
            have hfit : Sp.fits ⟨F, u0, F + M, u1, M, true⟩ n = true := by simp [Sp.fits, Sp.room, Sp.used]; omega
            have HF := Lib.hid hfit
            clear hfit
            have hd : decide (1 ≤ n) = true := by simp; omega
            have hd2 : decide (n ≤ M - u1) = true := by simp; omega
            go_wp2_with fail
            refine (Take_calls n w2 hs).mono ?_
            rintro e w3 ⟨rfl, hs3, hk3⟩
            rw [Sp.take, HF.out] at hs3
            rw [HF.out]
            have hX3 := hk3.blk hX0 (by omega)
            have hG3 := hk3.blk hG (by omega)
            have hkp3 := hkp.trans hk3 (fun i h => .inr (by omega))
            have x3 := hX3.cell 1
            simp at x3
            have y0 := hG3.cell 0
            have y1 := hG3.cell 1
            simp at y0 y1
            have v0 := hG3.frozen 0
            have v1 := hG3.frozen 1
            clear hs hG hkp hX0 x1 c0 c1 z0 z1 hk3
            simp only [if_true, if_false, Bool.false_eq_true, Sp.here, Sp.used] at hs3 ⊢
            go_wp2_with fail
            go_quiet (fail)
            go_wp2_with fail
            go_region
            all_goals
              go_wp2_with fail
              go_meet
              exact ⟨u0, u1 + n, true, rfl, PlRel.set1 (hs3.drewN _) (hG3.drewN _) (hkp3.drewN _) hwb hwG hbG rfl rfl, (hX3.drewN _).far (by simp; omega) _⟩
          · as_aux_lemma =>
            have hfit : Sp.fits ⟨F, u0, F + M, u1, M, true⟩ n = false := by simp [Sp.fits, Sp.room, Sp.used]; omega
            have HF := Lib.hid hfit
            clear hfit
            have hd : decide (1 ≤ n) = true := by simp; omega
            have hd2 : decide (n ≤ M - u1) = false := by simp; omega
            go_wp2_with fail
            refine (Take_calls n w2 hs).mono ?_
            rintro e w3 ⟨rfl, hs3, hk3⟩
            rw [Sp.take, HF.out] at hs3
            rw [HF.out]
            have hX3 := hk3.blk hX0 (by omega)
            have hG3 := hk3.blk hG (by omega)
            have hkp3 := hkp.trans hk3 (fun i h => .inr (by omega))
            have x3 := hX3.cell 1
            simp at x3
            have y0 := hG3.cell 0
            have y1 := hG3.cell 1
            simp at y0 y1
            have v0 := hG3.frozen 0
            have v1 := hG3.frozen 1
            clear hs hG hkp hX0 x1 c0 c1 z0 z1 hk3
            simp only [if_true, if_false, Bool.false_eq_true, Sp.here, Sp.used] at hs3 ⊢
            go_wp2_with fail
            go_quiet (fail)
            go_wp2_with fail
            go_meet
            exact ⟨u0, u1, true, rfl, ⟨hs3.drewN _, hG3.drewN _, hkp3.drewN _, hwb, hwG, hbG⟩, hX3.drewN _⟩
          · as_aux_lemma =>
            have hfl : Sp.flip ⟨F, 0, F + M, u1, M, true⟩ = ⟨F, 0, F + M, u1, M, false⟩ := by simp [Sp.flip, Sp.left, *]
            have hle : decide (Sp.left ⟨F, 0, F + M, u1, M, true⟩ ≤ 0) = true := by simp [Sp.left, *]
            have HL := Lib.hid hfl
            have HE := Lib.hid hle
            clear hfl hle
            go_wp2_with fail
            refine (Flip_calls w2 hs).mono ?_
            rintro e w3 ⟨rfl, hs3, hk3⟩
            rw [HL.out] at hs3
            rw [HE.out]
            have hX3 := hk3.blk hX0 (by omega)
            have hG3 := hk3.blk hG (by omega)
            have hkp3 := hkp.trans hk3 (fun i h => .inr (by omega))
            go_wp2_with fail
            go_meet
            exact ⟨0, u1, false, rfl, ⟨hs3, hG3, hkp3, hwb, hwG, hbG⟩, hX3⟩
          · as_aux_lemma =>
            have hne : (u0 == 0) = false := by simp; omega
            have hfl : Sp.flip ⟨F, u0, F + M, u1, M, true⟩ = ⟨F, u0, F + M, u1, M, true⟩ := by simp [Sp.flip, Sp.left, hn]
            have hle : decide (Sp.left ⟨F, u0, F + M, u1, M, true⟩ ≤ 0) = false := by simp [Sp.left, hn]
            have HL := Lib.hid hfl
            have HE := Lib.hid hle
            clear hfl hle
            go_wp2_with fail
            refine (Flip_calls w2 hs).mono ?_
            rintro e w3 ⟨rfl, hs3, hk3⟩
            rw [HL.out] at hs3
            rw [HE.out]
            have hX3 := hk3.blk hX0 (by omega)
            have hG3 := hk3.blk hG (by omega)
            have hkp3 := hkp.trans hk3 (fun i h => .inr (by omega))
            go_wp2_with fail
            go_meet
            exact ⟨u0, u1, true, rfl, ⟨hs3, hG3, hkp3, hwb, hwG, hbG⟩, hX3⟩
          · as_aux_lemma =>
            have hfl : Sp.drop ⟨F, 0, F + M, u1, M, true⟩ = ⟨F, 0, F + M, u1, M, true⟩ := by simp [Sp.drop]
            have hle : decide (0 < Sp.left ⟨F, 0, F + M, u1, M, true⟩) = false := by simp [Sp.left, *]
            have HL := Lib.hid hfl
            have HE := Lib.hid hle
            clear hfl hle
            go_wp2_with fail
            replace hs := SRep.drew hs
            replace hX0 := hX0.drew
            replace hG := hG.drew
            replace hkp := hkp.drew
            have i0 : IntKind.i64.wrap 0 = 0 := by decide
            have i1 : IntKind.i64.wrap 1 = 1 := by decide
            have i2 : IntKind.i64.wrap (1 - 0) = 1 := by decide
            have i3 : IntKind.i64.wrap (1 - 1) = 0 := by decide
            go_region_held3 (fun w' => w'.cell? ⟨G, 0, none⟩ = some (.int .i64 0) ∧ w'.cell? ⟨G, 1, none⟩ = some (.int .i64 u1)) ((first | exact ⟨c0, c1⟩ | exact ⟨y0, y1⟩)) ((go_at_call 22; refine (Drop_calls _ hs).mono ?_; rintro e w3 ⟨rfl, hs3, hk3⟩; rw [HL.out] at hs3; rw [HE.out]; have hX3 := hk3.blk hX0 (by omega); have hG3 := hk3.blk hG (by omega); have hkp3 := hkp.trans hk3 (fun i h => .inr (by omega)); have y0 := hG3.cell 0; have y1 := hG3.cell 1; simp at y0 y1; have v0 := hG3.frozen 0; have v1 := hG3.frozen 1))
            all_goals
              go_wp2_with fail
              (try (go_meet; exact ⟨0, u1, true, rfl, PlRel.set0 hs3 hG3 hkp3 hwb hwG hbG rfl rfl, hX3.far (by simp; omega) _⟩))

          · as_aux_lemma =>
            have hne : decide (0 < u0) = true := by simp; omega
            have hfl : Sp.drop ⟨F, u0, F + M, u1, M, true⟩ = ⟨F, 0, F + M, u1, M, true⟩ := by simp [Sp.drop]
            have hle : decide (0 < Sp.left ⟨F, u0, F + M, u1, M, true⟩) = true := by simp [Sp.left, hn]
            have HL := Lib.hid hfl
            have HE := Lib.hid hle
            clear hfl hle
            go_wp2_with fail
            replace hs := SRep.drew hs
            replace hX0 := hX0.drew
            replace hG := hG.drew
            replace hkp := hkp.drew
            have i0 : IntKind.i64.wrap 0 = 0 := by decide
            have i1 : IntKind.i64.wrap 1 = 1 := by decide
            have i2 : IntKind.i64.wrap (1 - 0) = 1 := by decide
            have i3 : IntKind.i64.wrap (1 - 1) = 0 := by decide
            go_region_held3 (fun w' => w'.cell? ⟨G, 0, none⟩ = some (.int .i64 u0) ∧ w'.cell? ⟨G, 1, none⟩ = some (.int .i64 u1)) ((first | exact ⟨c0, c1⟩ | exact ⟨y0, y1⟩)) ((go_at_call 22; refine (Drop_calls _ hs).mono ?_; rintro e w3 ⟨rfl, hs3, hk3⟩; rw [HL.out] at hs3; rw [HE.out]; have hX3 := hk3.blk hX0 (by omega); have hG3 := hk3.blk hG (by omega); have hkp3 := hkp.trans hk3 (fun i h => .inr (by omega)); have y0 := hG3.cell 0; have y1 := hG3.cell 1; simp at y0 y1; have v0 := hG3.frozen 0; have v1 := hG3.frozen 1))
            all_goals
              go_wp2_with fail
              (try (go_meet; exact ⟨0, u1, true, rfl, PlRel.set0 hs3 hG3 hkp3 hwb hwG hbG rfl rfl, hX3.far (by simp; omega) _⟩))

          · as_aux_lemma =>
            have g0 : (wh == 0) = false := by simpa using hw0
            have g1 : (wh == 1) = false := by simpa using hw1
            have g2 : (wh == 2) = false := by simpa using hw2
            go_wp2_with fail
            go_meet
            exact ⟨u0, u1, true, rfl, ⟨hs, hG, hkp, hwb, hwG, hbG⟩, hX0⟩
      case rest =>
        as_aux_lemma =>
        obtain ⟨u0', u1', nw', rfl, hr, hX⟩ := hcut
        obtain ⟨hs, hG, hkp, hwb, hwG, hbG⟩ := hr
        have hs' := hs
        obtain ⟨_, hok, _⟩ := hs'
        unfold Sp.ok at hok
        simp only [] at hok
        obtain ⟨_, _, _, _, _, o5, o6, o7, o8⟩ := hok
        have c0 := hG.cell 0
        have c1 := hG.cell 1
        simp at c0 c1
        cases nw'
        · as_aux_lemma =>
          have hhe : Sp.here ⟨F, u0', F + M, u1', M, false⟩ = F := rfl
          have hth : Sp.there ⟨F, u0', F + M, u1', M, false⟩ = F + M := rfl
          have HHE := Lib.hid hhe
          have HTH := Lib.hid hth
          clear hhe hth
          have q1 : (F != F) = false := by simp
          have q2 : (F + M != F + M) = false := by simp
          have q3 : (u0' != u0') = false := by simp
          have q4 : (u1' != u1') = false := by simp
          have q5 : (M - u0' != M - u0') = false := by simp
          have r1 := IntWalk.i64_in (M - u0') (by omega)
          go_wp2_with fail
          refine (Begin_calls wc hs).mono ?_
          rintro e w4 ⟨rfl, nn, hw4⟩
          rw [HHE.out, HTH.out]
          replace hs := SRep.drewN hs nn
          replace hX := hX.drewN nn
          replace hG := hG.drewN nn
          replace hkp := hkp.drewN nn
          rw [← hw4] at hs hX hG hkp
          clear hw4
          have c0 := hG.cell 0
          have c1 := hG.cell 1
          simp at c0 c1
          go_wp2_with fail
          go_quiet ((first | (go_at_call 18; exact Calls.quiet_of (Used_q (v := u0') _ (SRep.drewN hs _) rfl)) | (go_at_call 19; exact Calls.quiet_of (Left_q (v := u1') _ (SRep.drewN hs _) rfl)) | (go_at_call 21; exact Calls.quiet_of (Room_q (v := M - u0') _ (SRep.drewN hs _) rfl))))
          go_wp2_with fail
          have hF : PlF w b G X ⟨F, u0', F + M, u1', M, false⟩ wh n (w4.drewN nq) := ⟨SRep.drewN hs nq, hG.drewN nq, hX.drewN nq, hkp.drewN nq⟩
          generalize w4.drewN nq = w5 at hF ⊢
          clear hs hG hX hkp c0 c1 q1 q2 q3 q4 q5 r1 HHE HTH
          have r2 := IntWalk.i64_in (F + u0') (by omega)
          have r3 := IntWalk.i64_in (F + M + u0') (by omega)
          have r4 := IntWalk.i64_in (F + u1') (by omega)
          have r5 := IntWalk.i64_in (F + M + u1') (by omega)
          rcases (by omega : (n < F) ∨ (F ≤ n ∧ n < F + u0') ∨ (F ≤ n ∧ F + u0' ≤ n)) with a0 | ⟨a0, a1⟩ | ⟨a0, a1⟩
          · rcases (by omega : (n < F + M) ∨ (F + M ≤ n ∧ n < F + M + u1') ∨ (F + M ≤ n ∧ F + M + u1' ≤ n)) with b0 | ⟨b0, b1⟩ | ⟨b0, b1⟩
            · as_aux_lemma =>
              have hi : Sp.isIn ⟨F, u0', F + M, u1', M, false⟩ n = false := by simp [Sp.isIn, Sp.here, Sp.used]; omega
              have hf : Sp.isFrom ⟨F, u0', F + M, u1', M, false⟩ n = false := by simp [Sp.isFrom, Sp.there, Sp.left]; omega
              have d1 : decide (F ≤ n) = false := by simp; omega
              have d2 : decide (n < F + u0') = true := by simp; omega
              have d3 : decide (F + M ≤ n) = false := by simp; omega
              have d4 : decide (n < F + M + u1') = true := by simp; omega
              have HI := Lib.hid hi
              have HF := Lib.hid hf
              clear hi hf
              have k1 : ∀ x : WIn (PlF w b G X ⟨F, u0', F + M, u1', M, false⟩ wh n), x.w.cell? ⟨X, 1, none⟩ = some (.int .i64 n) := fun x => (PlF.pls x.h).1.1
              have k2 : ∀ x : WIn (PlF w b G X ⟨F, u0', F + M, u1', M, false⟩ wh n), x.w.cell? ⟨G, 0, none⟩ = some (.int .i64 u0') := fun x => (PlF.pls x.h).1.2.1
              have k3 : ∀ x : WIn (PlF w b G X ⟨F, u0', F + M, u1', M, false⟩ wh n), x.w.cell? ⟨G, 1, none⟩ = some (.int .i64 u1') := fun x => (PlF.pls x.h).1.2.2
              have kne : Nonempty (WIn (PlF w b G X ⟨F, u0', F + M, u1', M, false⟩ wh n)) := ⟨⟨w5, hF⟩⟩
              refine wp_region_cls (PlF w b G X ⟨F, u0', F + M, u1', M, false⟩ wh n) (by kernel_rfl) (by kernel_rfl) (PlF.drew hF) ?_
              repeat (go_big_quiet_step ((first | (go_at_call 14; exact Calls.cls (In_f n (WIn.h _) (by omega) _ HI.out)) | (go_at_call 15; exact Calls.cls (From_f n (WIn.h _) (by omega) _ HF.out)))))
              refine wpQuiet_nil ?_
              rintro _ ⟨⟨w6, h6⟩, rfl⟩
              clear k1 k2 k3 hF kne
              go_wp2_with fail
              go_roundg (gk - 1)
              case measure => omega
              case rel => exact ⟨k + 1, u0', u1', false, by omega, by go_num, rfl, h6.1, h6.2.1, h6.2.2.2, hwb, hwG, hbG⟩
            · exact absurd nb (by omega)
            · exact absurd nb (by omega)
          · rcases (by omega : (n < F + M) ∨ (F + M ≤ n ∧ n < F + M + u1') ∨ (F + M ≤ n ∧ F + M + u1' ≤ n)) with b0 | ⟨b0, b1⟩ | ⟨b0, b1⟩
            · as_aux_lemma =>
              have hi : Sp.isIn ⟨F, u0', F + M, u1', M, false⟩ n = true := by simp [Sp.isIn, Sp.here, Sp.used]; omega
              have hf : Sp.isFrom ⟨F, u0', F + M, u1', M, false⟩ n = false := by simp [Sp.isFrom, Sp.there, Sp.left]; omega
              have d1 : decide (F ≤ n) = true := by simp; omega
              have d2 : decide (n < F + u0') = true := by simp; omega
              have d3 : decide (F + M ≤ n) = false := by simp; omega
              have d4 : decide (n < F + M + u1') = true := by simp; omega
              have HI := Lib.hid hi
              have HF := Lib.hid hf
              clear hi hf
              have k1 : ∀ x : WIn (PlF w b G X ⟨F, u0', F + M, u1', M, false⟩ wh n), x.w.cell? ⟨X, 1, none⟩ = some (.int .i64 n) := fun x => (PlF.pls x.h).1.1
              have k2 : ∀ x : WIn (PlF w b G X ⟨F, u0', F + M, u1', M, false⟩ wh n), x.w.cell? ⟨G, 0, none⟩ = some (.int .i64 u0') := fun x => (PlF.pls x.h).1.2.1
              have k3 : ∀ x : WIn (PlF w b G X ⟨F, u0', F + M, u1', M, false⟩ wh n), x.w.cell? ⟨G, 1, none⟩ = some (.int .i64 u1') := fun x => (PlF.pls x.h).1.2.2
              have kne : Nonempty (WIn (PlF w b G X ⟨F, u0', F + M, u1', M, false⟩ wh n)) := ⟨⟨w5, hF⟩⟩
              refine wp_region_cls (PlF w b G X ⟨F, u0', F + M, u1', M, false⟩ wh n) (by kernel_rfl) (by kernel_rfl) (PlF.drew hF) ?_
              repeat (go_big_quiet_step ((first | (go_at_call 14; exact Calls.cls (In_f n (WIn.h _) (by omega) _ HI.out)) | (go_at_call 15; exact Calls.cls (From_f n (WIn.h _) (by omega) _ HF.out)))))
              refine wpQuiet_nil ?_
              rintro _ ⟨⟨w6, h6⟩, rfl⟩
              clear k1 k2 k3 hF kne
              go_wp2_with fail
              go_roundg (gk - 1)
              case measure => omega
              case rel => exact ⟨k + 1, u0', u1', false, by omega, by go_num, rfl, h6.1, h6.2.1, h6.2.2.2, hwb, hwG, hbG⟩
            · exact absurd nb (by omega)
            · exact absurd nb (by omega)
          · rcases (by omega : (n < F + M) ∨ (F + M ≤ n ∧ n < F + M + u1') ∨ (F + M ≤ n ∧ F + M + u1' ≤ n)) with b0 | ⟨b0, b1⟩ | ⟨b0, b1⟩
            · as_aux_lemma =>
              have hi : Sp.isIn ⟨F, u0', F + M, u1', M, false⟩ n = false := by simp [Sp.isIn, Sp.here, Sp.used]; omega
              have hf : Sp.isFrom ⟨F, u0', F + M, u1', M, false⟩ n = false := by simp [Sp.isFrom, Sp.there, Sp.left]; omega
              have d1 : decide (F ≤ n) = true := by simp; omega
              have d2 : decide (n < F + u0') = false := by simp; omega
              have d3 : decide (F + M ≤ n) = false := by simp; omega
              have d4 : decide (n < F + M + u1') = true := by simp; omega
              have HI := Lib.hid hi
              have HF := Lib.hid hf
              clear hi hf
              have k1 : ∀ x : WIn (PlF w b G X ⟨F, u0', F + M, u1', M, false⟩ wh n), x.w.cell? ⟨X, 1, none⟩ = some (.int .i64 n) := fun x => (PlF.pls x.h).1.1
              have k2 : ∀ x : WIn (PlF w b G X ⟨F, u0', F + M, u1', M, false⟩ wh n), x.w.cell? ⟨G, 0, none⟩ = some (.int .i64 u0') := fun x => (PlF.pls x.h).1.2.1
              have k3 : ∀ x : WIn (PlF w b G X ⟨F, u0', F + M, u1', M, false⟩ wh n), x.w.cell? ⟨G, 1, none⟩ = some (.int .i64 u1') := fun x => (PlF.pls x.h).1.2.2
              have kne : Nonempty (WIn (PlF w b G X ⟨F, u0', F + M, u1', M, false⟩ wh n)) := ⟨⟨w5, hF⟩⟩
              refine wp_region_cls (PlF w b G X ⟨F, u0', F + M, u1', M, false⟩ wh n) (by kernel_rfl) (by kernel_rfl) (PlF.drew hF) ?_
              repeat (go_big_quiet_step ((first | (go_at_call 14; exact Calls.cls (In_f n (WIn.h _) (by omega) _ HI.out)) | (go_at_call 15; exact Calls.cls (From_f n (WIn.h _) (by omega) _ HF.out)))))
              refine wpQuiet_nil ?_
              rintro _ ⟨⟨w6, h6⟩, rfl⟩
              clear k1 k2 k3 hF kne
              go_wp2_with fail
              go_roundg (gk - 1)
              case measure => omega
              case rel => exact ⟨k + 1, u0', u1', false, by omega, by go_num, rfl, h6.1, h6.2.1, h6.2.2.2, hwb, hwG, hbG⟩
            · as_aux_lemma =>
              have hi : Sp.isIn ⟨F, u0', F + M, u1', M, false⟩ n = false := by simp [Sp.isIn, Sp.here, Sp.used]; omega
              have hf : Sp.isFrom ⟨F, u0', F + M, u1', M, false⟩ n = true := by simp [Sp.isFrom, Sp.there, Sp.left]; omega
              have d1 : decide (F ≤ n) = true := by simp; omega
              have d2 : decide (n < F + u0') = false := by simp; omega
              have d3 : decide (F + M ≤ n) = true := by simp; omega
              have d4 : decide (n < F + M + u1') = true := by simp; omega
              have HI := Lib.hid hi
              have HF := Lib.hid hf
              clear hi hf
              have k1 : ∀ x : WIn (PlF w b G X ⟨F, u0', F + M, u1', M, false⟩ wh n), x.w.cell? ⟨X, 1, none⟩ = some (.int .i64 n) := fun x => (PlF.pls x.h).1.1
              have k2 : ∀ x : WIn (PlF w b G X ⟨F, u0', F + M, u1', M, false⟩ wh n), x.w.cell? ⟨G, 0, none⟩ = some (.int .i64 u0') := fun x => (PlF.pls x.h).1.2.1
              have k3 : ∀ x : WIn (PlF w b G X ⟨F, u0', F + M, u1', M, false⟩ wh n), x.w.cell? ⟨G, 1, none⟩ = some (.int .i64 u1') := fun x => (PlF.pls x.h).1.2.2
              have kne : Nonempty (WIn (PlF w b G X ⟨F, u0', F + M, u1', M, false⟩ wh n)) := ⟨⟨w5, hF⟩⟩
              refine wp_region_cls (PlF w b G X ⟨F, u0', F + M, u1', M, false⟩ wh n) (by kernel_rfl) (by kernel_rfl) (PlF.drew hF) ?_
              repeat (go_big_quiet_step ((first | (go_at_call 14; exact Calls.cls (In_f n (WIn.h _) (by omega) _ HI.out)) | (go_at_call 15; exact Calls.cls (From_f n (WIn.h _) (by omega) _ HF.out)))))
              refine wpQuiet_nil ?_
              rintro _ ⟨⟨w6, h6⟩, rfl⟩
              clear k1 k2 k3 hF kne
              go_wp2_with fail
              go_roundg (gk - 1)
              case measure => omega
              case rel => exact ⟨k + 1, u0', u1', false, by omega, by go_num, rfl, h6.1, h6.2.1, h6.2.2.2, hwb, hwG, hbG⟩
            · as_aux_lemma =>
              have hi : Sp.isIn ⟨F, u0', F + M, u1', M, false⟩ n = false := by simp [Sp.isIn, Sp.here, Sp.used]; omega
              have hf : Sp.isFrom ⟨F, u0', F + M, u1', M, false⟩ n = false := by simp [Sp.isFrom, Sp.there, Sp.left]; omega
              have d1 : decide (F ≤ n) = true := by simp; omega
              have d2 : decide (n < F + u0') = false := by simp; omega
              have d3 : decide (F + M ≤ n) = true := by simp; omega
              have d4 : decide (n < F + M + u1') = false := by simp; omega
              have HI := Lib.hid hi
              have HF := Lib.hid hf
              clear hi hf
              have k1 : ∀ x : WIn (PlF w b G X ⟨F, u0', F + M, u1', M, false⟩ wh n), x.w.cell? ⟨X, 1, none⟩ = some (.int .i64 n) := fun x => (PlF.pls x.h).1.1
              have k2 : ∀ x : WIn (PlF w b G X ⟨F, u0', F + M, u1', M, false⟩ wh n), x.w.cell? ⟨G, 0, none⟩ = some (.int .i64 u0') := fun x => (PlF.pls x.h).1.2.1
              have k3 : ∀ x : WIn (PlF w b G X ⟨F, u0', F + M, u1', M, false⟩ wh n), x.w.cell? ⟨G, 1, none⟩ = some (.int .i64 u1') := fun x => (PlF.pls x.h).1.2.2
              have kne : Nonempty (WIn (PlF w b G X ⟨F, u0', F + M, u1', M, false⟩ wh n)) := ⟨⟨w5, hF⟩⟩
              refine wp_region_cls (PlF w b G X ⟨F, u0', F + M, u1', M, false⟩ wh n) (by kernel_rfl) (by kernel_rfl) (PlF.drew hF) ?_
              repeat (go_big_quiet_step ((first | (go_at_call 14; exact Calls.cls (In_f n (WIn.h _) (by omega) _ HI.out)) | (go_at_call 15; exact Calls.cls (From_f n (WIn.h _) (by omega) _ HF.out)))))
              refine wpQuiet_nil ?_
              rintro _ ⟨⟨w6, h6⟩, rfl⟩
              clear k1 k2 k3 hF kne
              go_wp2_with fail
              go_roundg (gk - 1)
              case measure => omega
              case rel => exact ⟨k + 1, u0', u1', false, by omega, by go_num, rfl, h6.1, h6.2.1, h6.2.2.2, hwb, hwG, hbG⟩
        · as_aux_lemma =>
          have hhe : Sp.here ⟨F, u0', F + M, u1', M, true⟩ = F + M := rfl
          have hth : Sp.there ⟨F, u0', F + M, u1', M, true⟩ = F := rfl
          have HHE := Lib.hid hhe
          have HTH := Lib.hid hth
          clear hhe hth
          have q1 : (F != F) = false := by simp
          have q2 : (F + M != F + M) = false := by simp
          have q3 : (u0' != u0') = false := by simp
          have q4 : (u1' != u1') = false := by simp
          have q5 : (M - u1' != M - u1') = false := by simp
          have r1 := IntWalk.i64_in (M - u1') (by omega)
          go_wp2_with fail
          refine (Begin_calls wc hs).mono ?_
          rintro e w4 ⟨rfl, nn, hw4⟩
          rw [HHE.out, HTH.out]
          replace hs := SRep.drewN hs nn
          replace hX := hX.drewN nn
          replace hG := hG.drewN nn
          replace hkp := hkp.drewN nn
          rw [← hw4] at hs hX hG hkp
          clear hw4
          have c0 := hG.cell 0
          have c1 := hG.cell 1
          simp at c0 c1
          go_wp2_with fail
          go_quiet ((first | (go_at_call 18; exact Calls.quiet_of (Used_q (v := u1') _ (SRep.drewN hs _) rfl)) | (go_at_call 19; exact Calls.quiet_of (Left_q (v := u0') _ (SRep.drewN hs _) rfl)) | (go_at_call 21; exact Calls.quiet_of (Room_q (v := M - u1') _ (SRep.drewN hs _) rfl))))
          go_wp2_with fail
          have hF : PlF w b G X ⟨F, u0', F + M, u1', M, true⟩ wh n (w4.drewN nq) := ⟨SRep.drewN hs nq, hG.drewN nq, hX.drewN nq, hkp.drewN nq⟩
          generalize w4.drewN nq = w5 at hF ⊢
          clear hs hG hX hkp c0 c1 q1 q2 q3 q4 q5 r1 HHE HTH
          have r2 := IntWalk.i64_in (F + u1') (by omega)
          have r3 := IntWalk.i64_in (F + M + u1') (by omega)
          have r4 := IntWalk.i64_in (F + u0') (by omega)
          have r5 := IntWalk.i64_in (F + M + u0') (by omega)
          rcases (by omega : (n < F + M) ∨ (F + M ≤ n ∧ n < F + M + u1') ∨ (F + M ≤ n ∧ F + M + u1' ≤ n)) with a0 | ⟨a0, a1⟩ | ⟨a0, a1⟩
          · rcases (by omega : (n < F) ∨ (F ≤ n ∧ n < F + u0') ∨ (F ≤ n ∧ F + u0' ≤ n)) with b0 | ⟨b0, b1⟩ | ⟨b0, b1⟩
            · as_aux_lemma =>
              have hi : Sp.isIn ⟨F, u0', F + M, u1', M, true⟩ n = false := by simp [Sp.isIn, Sp.here, Sp.used]; omega
              have hf : Sp.isFrom ⟨F, u0', F + M, u1', M, true⟩ n = false := by simp [Sp.isFrom, Sp.there, Sp.left]; omega
              have d1 : decide (F + M ≤ n) = false := by simp; omega
              have d2 : decide (n < F + M + u1') = true := by simp; omega
              have d3 : decide (F ≤ n) = false := by simp; omega
              have d4 : decide (n < F + u0') = true := by simp; omega
              have HI := Lib.hid hi
              have HF := Lib.hid hf
              clear hi hf
              have k1 : ∀ x : WIn (PlF w b G X ⟨F, u0', F + M, u1', M, true⟩ wh n), x.w.cell? ⟨X, 1, none⟩ = some (.int .i64 n) := fun x => (PlF.pls x.h).1.1
              have k2 : ∀ x : WIn (PlF w b G X ⟨F, u0', F + M, u1', M, true⟩ wh n), x.w.cell? ⟨G, 0, none⟩ = some (.int .i64 u0') := fun x => (PlF.pls x.h).1.2.1
              have k3 : ∀ x : WIn (PlF w b G X ⟨F, u0', F + M, u1', M, true⟩ wh n), x.w.cell? ⟨G, 1, none⟩ = some (.int .i64 u1') := fun x => (PlF.pls x.h).1.2.2
              have kne : Nonempty (WIn (PlF w b G X ⟨F, u0', F + M, u1', M, true⟩ wh n)) := ⟨⟨w5, hF⟩⟩
              refine wp_region_cls (PlF w b G X ⟨F, u0', F + M, u1', M, true⟩ wh n) (by kernel_rfl) (by kernel_rfl) (PlF.drew hF) ?_
              repeat (go_big_quiet_step ((first | (go_at_call 14; exact Calls.cls (In_f n (WIn.h _) (by omega) _ HI.out)) | (go_at_call 15; exact Calls.cls (From_f n (WIn.h _) (by omega) _ HF.out)))))
              refine wpQuiet_nil ?_
              rintro _ ⟨⟨w6, h6⟩, rfl⟩
              clear k1 k2 k3 hF kne
              go_wp2_with fail
              go_roundg (gk - 1)
              case measure => omega
              case rel => exact ⟨k + 1, u0', u1', true, by omega, by go_num, rfl, h6.1, h6.2.1, h6.2.2.2, hwb, hwG, hbG⟩
            · as_aux_lemma =>
              have hi : Sp.isIn ⟨F, u0', F + M, u1', M, true⟩ n = false := by simp [Sp.isIn, Sp.here, Sp.used]; omega
              have hf : Sp.isFrom ⟨F, u0', F + M, u1', M, true⟩ n = true := by simp [Sp.isFrom, Sp.there, Sp.left]; omega
              have d1 : decide (F + M ≤ n) = false := by simp; omega
              have d2 : decide (n < F + M + u1') = true := by simp; omega
              have d3 : decide (F ≤ n) = true := by simp; omega
              have d4 : decide (n < F + u0') = true := by simp; omega
              have HI := Lib.hid hi
              have HF := Lib.hid hf
              clear hi hf
              have k1 : ∀ x : WIn (PlF w b G X ⟨F, u0', F + M, u1', M, true⟩ wh n), x.w.cell? ⟨X, 1, none⟩ = some (.int .i64 n) := fun x => (PlF.pls x.h).1.1
              have k2 : ∀ x : WIn (PlF w b G X ⟨F, u0', F + M, u1', M, true⟩ wh n), x.w.cell? ⟨G, 0, none⟩ = some (.int .i64 u0') := fun x => (PlF.pls x.h).1.2.1
              have k3 : ∀ x : WIn (PlF w b G X ⟨F, u0', F + M, u1', M, true⟩ wh n), x.w.cell? ⟨G, 1, none⟩ = some (.int .i64 u1') := fun x => (PlF.pls x.h).1.2.2
              have kne : Nonempty (WIn (PlF w b G X ⟨F, u0', F + M, u1', M, true⟩ wh n)) := ⟨⟨w5, hF⟩⟩
              refine wp_region_cls (PlF w b G X ⟨F, u0', F + M, u1', M, true⟩ wh n) (by kernel_rfl) (by kernel_rfl) (PlF.drew hF) ?_
              repeat (go_big_quiet_step ((first | (go_at_call 14; exact Calls.cls (In_f n (WIn.h _) (by omega) _ HI.out)) | (go_at_call 15; exact Calls.cls (From_f n (WIn.h _) (by omega) _ HF.out)))))
              refine wpQuiet_nil ?_
              rintro _ ⟨⟨w6, h6⟩, rfl⟩
              clear k1 k2 k3 hF kne
              go_wp2_with fail
              go_roundg (gk - 1)
              case measure => omega
              case rel => exact ⟨k + 1, u0', u1', true, by omega, by go_num, rfl, h6.1, h6.2.1, h6.2.2.2, hwb, hwG, hbG⟩
            · as_aux_lemma =>
              have hi : Sp.isIn ⟨F, u0', F + M, u1', M, true⟩ n = false := by simp [Sp.isIn, Sp.here, Sp.used]; omega
              have hf : Sp.isFrom ⟨F, u0', F + M, u1', M, true⟩ n = false := by simp [Sp.isFrom, Sp.there, Sp.left]; omega
              have d1 : decide (F + M ≤ n) = false := by simp; omega
              have d2 : decide (n < F + M + u1') = true := by simp; omega
              have d3 : decide (F ≤ n) = true := by simp; omega
              have d4 : decide (n < F + u0') = false := by simp; omega
              have HI := Lib.hid hi
              have HF := Lib.hid hf
              clear hi hf
              have k1 : ∀ x : WIn (PlF w b G X ⟨F, u0', F + M, u1', M, true⟩ wh n), x.w.cell? ⟨X, 1, none⟩ = some (.int .i64 n) := fun x => (PlF.pls x.h).1.1
              have k2 : ∀ x : WIn (PlF w b G X ⟨F, u0', F + M, u1', M, true⟩ wh n), x.w.cell? ⟨G, 0, none⟩ = some (.int .i64 u0') := fun x => (PlF.pls x.h).1.2.1
              have k3 : ∀ x : WIn (PlF w b G X ⟨F, u0', F + M, u1', M, true⟩ wh n), x.w.cell? ⟨G, 1, none⟩ = some (.int .i64 u1') := fun x => (PlF.pls x.h).1.2.2
              have kne : Nonempty (WIn (PlF w b G X ⟨F, u0', F + M, u1', M, true⟩ wh n)) := ⟨⟨w5, hF⟩⟩
              refine wp_region_cls (PlF w b G X ⟨F, u0', F + M, u1', M, true⟩ wh n) (by kernel_rfl) (by kernel_rfl) (PlF.drew hF) ?_
              repeat (go_big_quiet_step ((first | (go_at_call 14; exact Calls.cls (In_f n (WIn.h _) (by omega) _ HI.out)) | (go_at_call 15; exact Calls.cls (From_f n (WIn.h _) (by omega) _ HF.out)))))
              refine wpQuiet_nil ?_
              rintro _ ⟨⟨w6, h6⟩, rfl⟩
              clear k1 k2 k3 hF kne
              go_wp2_with fail
              go_roundg (gk - 1)
              case measure => omega
              case rel => exact ⟨k + 1, u0', u1', true, by omega, by go_num, rfl, h6.1, h6.2.1, h6.2.2.2, hwb, hwG, hbG⟩
          · rcases (by omega : (n < F) ∨ (F ≤ n ∧ n < F + u0') ∨ (F ≤ n ∧ F + u0' ≤ n)) with b0 | ⟨b0, b1⟩ | ⟨b0, b1⟩
            · exact absurd nb (by omega)
            · exact absurd nb (by omega)
            · as_aux_lemma =>
              have hi : Sp.isIn ⟨F, u0', F + M, u1', M, true⟩ n = true := by simp [Sp.isIn, Sp.here, Sp.used]; omega
              have hf : Sp.isFrom ⟨F, u0', F + M, u1', M, true⟩ n = false := by simp [Sp.isFrom, Sp.there, Sp.left]; omega
              have d1 : decide (F + M ≤ n) = true := by simp; omega
              have d2 : decide (n < F + M + u1') = true := by simp; omega
              have d3 : decide (F ≤ n) = true := by simp; omega
              have d4 : decide (n < F + u0') = false := by simp; omega
              have HI := Lib.hid hi
              have HF := Lib.hid hf
              clear hi hf
              have k1 : ∀ x : WIn (PlF w b G X ⟨F, u0', F + M, u1', M, true⟩ wh n), x.w.cell? ⟨X, 1, none⟩ = some (.int .i64 n) := fun x => (PlF.pls x.h).1.1
              have k2 : ∀ x : WIn (PlF w b G X ⟨F, u0', F + M, u1', M, true⟩ wh n), x.w.cell? ⟨G, 0, none⟩ = some (.int .i64 u0') := fun x => (PlF.pls x.h).1.2.1
              have k3 : ∀ x : WIn (PlF w b G X ⟨F, u0', F + M, u1', M, true⟩ wh n), x.w.cell? ⟨G, 1, none⟩ = some (.int .i64 u1') := fun x => (PlF.pls x.h).1.2.2
              have kne : Nonempty (WIn (PlF w b G X ⟨F, u0', F + M, u1', M, true⟩ wh n)) := ⟨⟨w5, hF⟩⟩
              refine wp_region_cls (PlF w b G X ⟨F, u0', F + M, u1', M, true⟩ wh n) (by kernel_rfl) (by kernel_rfl) (PlF.drew hF) ?_
              repeat (go_big_quiet_step ((first | (go_at_call 14; exact Calls.cls (In_f n (WIn.h _) (by omega) _ HI.out)) | (go_at_call 15; exact Calls.cls (From_f n (WIn.h _) (by omega) _ HF.out)))))
              refine wpQuiet_nil ?_
              rintro _ ⟨⟨w6, h6⟩, rfl⟩
              clear k1 k2 k3 hF kne
              go_wp2_with fail
              go_roundg (gk - 1)
              case measure => omega
              case rel => exact ⟨k + 1, u0', u1', true, by omega, by go_num, rfl, h6.1, h6.2.1, h6.2.2.2, hwb, hwG, hbG⟩
          · rcases (by omega : (n < F) ∨ (F ≤ n ∧ n < F + u0') ∨ (F ≤ n ∧ F + u0' ≤ n)) with b0 | ⟨b0, b1⟩ | ⟨b0, b1⟩
            · exact absurd nb (by omega)
            · exact absurd nb (by omega)
            · as_aux_lemma =>
              have hi : Sp.isIn ⟨F, u0', F + M, u1', M, true⟩ n = false := by simp [Sp.isIn, Sp.here, Sp.used]; omega
              have hf : Sp.isFrom ⟨F, u0', F + M, u1', M, true⟩ n = false := by simp [Sp.isFrom, Sp.there, Sp.left]; omega
              have d1 : decide (F + M ≤ n) = true := by simp; omega
              have d2 : decide (n < F + M + u1') = false := by simp; omega
              have d3 : decide (F ≤ n) = true := by simp; omega
              have d4 : decide (n < F + u0') = false := by simp; omega
              have HI := Lib.hid hi
              have HF := Lib.hid hf
              clear hi hf
              have k1 : ∀ x : WIn (PlF w b G X ⟨F, u0', F + M, u1', M, true⟩ wh n), x.w.cell? ⟨X, 1, none⟩ = some (.int .i64 n) := fun x => (PlF.pls x.h).1.1
              have k2 : ∀ x : WIn (PlF w b G X ⟨F, u0', F + M, u1', M, true⟩ wh n), x.w.cell? ⟨G, 0, none⟩ = some (.int .i64 u0') := fun x => (PlF.pls x.h).1.2.1
              have k3 : ∀ x : WIn (PlF w b G X ⟨F, u0', F + M, u1', M, true⟩ wh n), x.w.cell? ⟨G, 1, none⟩ = some (.int .i64 u1') := fun x => (PlF.pls x.h).1.2.2
              have kne : Nonempty (WIn (PlF w b G X ⟨F, u0', F + M, u1', M, true⟩ wh n)) := ⟨⟨w5, hF⟩⟩
              refine wp_region_cls (PlF w b G X ⟨F, u0', F + M, u1', M, true⟩ wh n) (by kernel_rfl) (by kernel_rfl) (PlF.drew hF) ?_
              repeat (go_big_quiet_step ((first | (go_at_call 14; exact Calls.cls (In_f n (WIn.h _) (by omega) _ HI.out)) | (go_at_call 15; exact Calls.cls (From_f n (WIn.h _) (by omega) _ HF.out)))))
              refine wpQuiet_nil ?_
              rintro _ ⟨⟨w6, h6⟩, rfl⟩
              clear k1 k2 k3 hF kne
              go_wp2_with fail
              go_roundg (gk - 1)
              case measure => omega
              case rel => exact ⟨k + 1, u0', u1', true, by omega, by go_num, rfl, h6.1, h6.2.1, h6.2.2.2, hwb, hwG, hbG⟩
    · rcases (by omega : ¬ k < l1.length ∨ (k < l1.length ∧ ¬ k < 80)) with hx | ⟨hx, hx'⟩ <;> cases nw
      all_goals
        clear hc
        go_wp2_with fail
        refine (awake_calls wr).mono ?_
        rintro e w6 ⟨rfl, k6⟩
        go_wp2_with fail
        go_ret
        exact ⟨by simp, (hr.2.2.1.trans k6 (fun i h => .inl h)).below (fun i h => h.elim)⟩
end Go.Proofs.Ytoalianiedjoaaa.Bp

