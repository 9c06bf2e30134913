/- Texts of the whole heap, joined: WhN MatR MatS MatT. No condition beside those that each lemma names. -/
import Derived.Test.YtihmkkjmnbehbaaGreatMg20
import Derived.Test.YtihmkkjmnbehbaaGreatMg17
/- Make of the core. Condition: a largest of at most 64. -/
set_option linter.unusedVariables false
set_option linter.unusedSimpArgs false
namespace Go.Proofs.YtihmkkjmnbehbaaGreat.Wh
open Go.RowKit Go.Proofs.YtihmkkjmnbehbaaGreat.W Go.Proofs.YtihmkkjmnbehbaaGreat.Sm
section
variable {W w : World} {oo : Nat → Prop} {k : CK} {S : CS} {l : List Pr} {F : FuncId} {args : Array Value}
set_option maxRecDepth 20000 in
set_option maxHeartbeats 4000000 in
theorem Make_in (x p s : Int) (hp : I64 p) (hs : I64 s) (hl : 0 ≤ S.c.l ∧ S.c.l ≤ 64) (h : SepO W oo w (cparts k S ++ l)) : Calls Tryz.prog 71 #[pt k.c, .int .i64 x, .int .i64 p, .int .i64 s] w fun e w' => e = .returned (.int .i64 (S.make x p s).1) ∧ SepO W oo w' (cparts k (S.make x p s).2 ++ l) := by
  obtain ⟨⟨_, _, _, _, _, c18⟩, _, hbl, _⟩ := c_at h
  have H := Lib.hid h
  obtain ⟨R, hR⟩ : ∃ R, S.make x p s = R := ⟨_, rfl⟩
  rw [hR]
  have HR := Lib.hid hR
  clear hR
  obtain ⟨a, ha⟩ : ∃ a, (S.get x).1 = a := ⟨_, rfl⟩
  have HA := Lib.hid ha
  rcases get_e S x with he | he
  · have HE := Lib.hid he
    cases hsh : S.shape p s
    · obtain rfl : R = (6, S) := by rw [← HR.out]; unfold CS.make; rw [if_neg (by simpa using he), if_pos hsh]
      have HSH := Lib.hid hsh
      clear h ha he hsh
      go_enter Tryz.func71, Tryz.ntmps71
      go_wp2_with fail
      refine (TGet_in x H.out).mono ?_
      rintro e w1 ⟨rfl, h1⟩
      rw [HE.out, HA.out]
      have H1 := Lib.hid h1
      clear h1 H
      go_wp2_with fail
      refine (shape_in p s hp hs hl H1.out).mono ?_
      rintro e w2 ⟨rfl, rfl⟩
      rw [HSH.out]
      go_wp2_with fail
      go_ret
      exact ⟨rfl, H1.out⟩
    · obtain ⟨hp0, hs0, hpl, hsl⟩ : 0 ≤ p ∧ 0 ≤ s ∧ p ≤ S.c.l ∧ s ≤ S.c.l - p := by
        unfold CS.shape at hsh
        simpa using hsh
      obtain ⟨hl0, hl1⟩ := hl
      have hps : wrap64 (p + s) = p + s := by unfold wrap64; omega
      have hwb := words_b ⟨p + s, p, 0, S.par, false, false, false⟩
      obtain ⟨wd, hwd⟩ : ∃ wd, Ob.wordsOf ⟨p + s, p, 0, S.par, false, false, false⟩ = wd := ⟨_, rfl⟩
      rw [hwd] at hwb
      have HWD := Lib.hid hwd
      have HSH := Lib.hid hsh
      have HWB := Lib.hid hwb
      clear hwb
      obtain ⟨rm, hrm⟩ : ∃ rm, S.room wd = rm := ⟨_, rfl⟩
      have HRM := Lib.hid hrm
      cases rm
      · obtain rfl : R = (7, S) := by rw [← HR.out]; unfold CS.make; rw [if_neg (by simpa using he), if_neg (by simp [hsh])]; simp only [hwd]; rw [if_pos hrm]
        clear h ha he hsh hrm hwd
        go_enter Tryz.func71, Tryz.ntmps71
        go_wp2_with fail
        refine (TGet_in x H.out).mono ?_
        rintro e w1 ⟨rfl, h1⟩
        rw [HE.out, HA.out]
        have H1 := Lib.hid h1
        clear h1 H
        go_wp2_with fail
        refine (shape_in p s hp hs ⟨hl0, hl1⟩ H1.out).mono ?_
        rintro e w2 ⟨rfl, rfl⟩
        rw [HSH.out]
        have c19 := (c_at H1.out).2.1.1
        go_wp2_with fail
        obtain ⟨z, hz⟩ : ∃ z, w2.heap.size = z := ⟨_, rfl⟩
        have h2 := c_add H1.out 99 #[i6 (p + s), i6 p, i6 0, i6 S.par, .bool false, .bool false, .bool false]
        rw [hz] at h2
        refine (Words_in ⟨p + s, p, 0, S.par, false, false, false⟩ h2).mono ?_
        rintro e w3 ⟨rfl, h3⟩
        rw [HWD.out]
        have H3 := Lib.hid h3
        have hbl3 := (c_at h3).2.2.1
        clear h3 h2 H1 c18 c19 hbl
        go_wp2_with fail
        refine (room_in wd HWB.out H3.out).mono ?_
        rintro e w4 ⟨rfl, h4⟩
        rw [HRM.out]
        have H4 := Lib.hid h4
        have hbl4 := (c_at h4).2.2.1
        clear h4 H3 hbl3
        go_wp2_with fail
        go_ret
        exact ⟨rfl, c_drop H4.out⟩
      · obtain ⟨ya, hya⟩ : ∃ ya, yAt S.y wd = ya := ⟨_, rfl⟩
        have hRe : R = (Tab.setE S.tb x, CS.set { S with y := S.y.take wd, ws := Ob.mkW S.ws ya ⟨p + s, p, 0, S.par, false, false, false⟩, d := { S.d with al := wrap64 (S.d.al + 1), wo := wrap64 (S.d.wo + wd) } } x ya) := by
          rw [← HR.out]; unfold CS.make; rw [if_neg (by simpa using he), if_neg (by simp [hsh])]; simp only [hwd]; rw [if_neg (by simp [hrm])]; simp only [hya]
        subst hRe
        have HYA := Lib.hid hya
        clear hya
        clear h ha he hsh hrm hwd
        go_enter Tryz.func71, Tryz.ntmps71
        go_wp2_with fail
        refine (TGet_in x H.out).mono ?_
        rintro e w1 ⟨rfl, h1⟩
        rw [HE.out, HA.out]
        have H1 := Lib.hid h1
        clear h1 H
        go_wp2_with fail
        refine (shape_in p s hp hs ⟨hl0, hl1⟩ H1.out).mono ?_
        rintro e w2 ⟨rfl, rfl⟩
        rw [HSH.out]
        have c19 := (c_at H1.out).2.1.1
        go_wp2_with fail
        obtain ⟨z, hz⟩ : ∃ z, w2.heap.size = z := ⟨_, rfl⟩
        have h2 := c_add H1.out 99 #[i6 (p + s), i6 p, i6 0, i6 S.par, .bool false, .bool false, .bool false]
        rw [hz] at h2
        refine (Words_in ⟨p + s, p, 0, S.par, false, false, false⟩ h2).mono ?_
        rintro e w3 ⟨rfl, h3⟩
        rw [HWD.out]
        have H3 := Lib.hid h3
        have hbl3 := (c_at h3).2.2.1
        clear h3 h2 H1 c18 c19 hbl
        go_wp2_with fail
        refine (room_in wd HWB.out H3.out).mono ?_
        rintro e w4 ⟨rfl, h4⟩
        rw [HRM.out]
        have H4 := Lib.hid h4
        have hbl4 := (c_at h4).2.2.1
        clear h4 H3 hbl3
        have c14 := (c_at H4.out).1.2.1
        go_wp2_with fail
        refine (yTake_in wd H4.out).mono ?_
        rintro e w5 ⟨rfl, h5⟩
        rw [HYA.out]
        have H5 := Lib.hid h5
        have hc : ∀ w', SepO W oo w' (cparts k { S with y := S.y.take wd } ++ (l ++ [blkP z 99 #[i6 (p + s), i6 p, i6 0, i6 S.par, .bool false, .bool false, .bool false]])) → Calls Tryz.prog 114 #[pt k.a, .int .i64 ya, .agg #[i6 (p + s), i6 p, i6 0, i6 S.par, .bool false, .bool false, .bool false]] w' fun e w'' => e = .returned (.int .i64 (Ob.mkErr S.ws ya ⟨p + s, p, 0, S.par, false, false, false⟩)) ∧ SepO W oo w'' (cparts k { S with y := S.y.take wd, ws := Ob.mkW S.ws ya ⟨p + s, p, 0, S.par, false, false, false⟩ } ++ (l ++ [blkP z 99 #[i6 (p + s), i6 p, i6 0, i6 S.par, .bool false, .bool false, .bool false]])) := fun w' h' => oMake_in ya ⟨p + s, p, 0, S.par, false, false, false⟩ h'
        have HC := Lib.hid hc
        obtain ⟨⟨d13, _⟩, _, dbl, _⟩ := c_at h5
        have zb := SepO.blk h5 (8 + l.length) c_last
        have z0 := zb.cell 0
        have z1 := zb.cell 1
        have z2 := zb.cell 2
        have z3 := zb.cell 3
        have z4 := zb.cell 4
        have z5 := zb.cell 5
        have z6 := zb.cell 6
        simp at z0 z1 z2 z3 z4 z5 z6
        clear h5 zb H4 c14 hc
        go_wp2_with fail
        go_region_held3 (fun w' => w'.cell? ⟨k.c, 13, none⟩ = some (pt k.a) ∧ w'.cell? ⟨z, 0, none⟩ = some (i6 (p + s)) ∧ w'.cell? ⟨z, 1, none⟩ = some (i6 p) ∧ w'.cell? ⟨z, 2, none⟩ = some (i6 0) ∧ w'.cell? ⟨z, 3, none⟩ = some (i6 S.par) ∧ w'.cell? ⟨z, 4, none⟩ = some (.bool false) ∧ w'.cell? ⟨z, 5, none⟩ = some (.bool false) ∧ w'.cell? ⟨z, 6, none⟩ = some (.bool false)) (first | exact ⟨d13, z0, z1, z2, z3, z4, z5, z6⟩ | exact ⟨f13, f0, f1, f2, f3, f4, f5, f6⟩ | go_keep) ((go_at_call 114; (with_reducible refine (HC.out _ ?hx).mono ?_); (case hx => exact H5.out.drewN _); rintro e w6 ⟨rfl, h6⟩; have f13 := (c_at h6).1.1; have fb := SepO.blk h6 (8 + l.length) c_last; have f0 := fb.cell 0; have f1 := fb.cell 1; have f2 := fb.cell 2; have f3 := fb.cell 3; have f4 := fb.cell 4; have f5 := fb.cell 5; have f6 := fb.cell 6; simp at f0 f1 f2 f3 f4 f5 f6))
        have g26 : w6.cell? ⟨k.c, 26, none⟩ = some (i6 S.d.al) := (c_blk h6).cell 26
        have g27 : w6.cell? ⟨k.c, 27, none⟩ = some (i6 S.d.wo) := (c_blk h6).cell 27
        have g18 := (c_at h6).1.2.2.2.2.2
        obtain ⟨_, _, gbl, gfr⟩ := c_at h6
        have gf26 := gfr 26
        have gf27 := gfr 27
        have h7 := c_al (wrap64 (S.d.al + 1)) h6
        have h8 := c_wo (wrap64 (S.d.wo + wd)) h7
        have H8 := Lib.hid h8
        clear h6 h7 h8 fb f0 f1 f2 f3 f4 f5 f6 z0 z1 z2 z3 z4 z5 z6 d13 dbl HC H5 f13 gfr
        go_wp2_with fail
        refine (TSet_in x ya H8.out).mono ?_
        rintro e w9 ⟨rfl, h9⟩
        have H9 := Lib.hid h9
        clear h9 H8
        go_wp2_with fail
        go_ret
        exact ⟨rfl, c_drop H9.out⟩
  · obtain rfl : R = (3, S) := by rw [← HR.out]; unfold CS.make; rw [if_pos (by omega), he]
    have HE := Lib.hid he
    clear h ha he
    go_enter Tryz.func71, Tryz.ntmps71
    go_wp2_with fail
    refine (TGet_in x H.out).mono ?_
    rintro e w1 ⟨rfl, h1⟩
    rw [HE.out]
    have H1 := Lib.hid h1
    clear h1 H
    go_wp2_with fail
    go_ret
    exact ⟨rfl, H1.out⟩
end
end Go.Proofs.YtihmkkjmnbehbaaGreat.Wh
/- What Give does to what is in use; what begins in a part; a space without anything in use. No condition. -/
set_option linter.unusedVariables false
set_option linter.unusedSimpArgs false
namespace Go.Proofs.YtihmkkjmnbehbaaGreat.Ma
open Go.RowKit Go.Proofs.YtihmkkjmnbehbaaGreat.W Go.Proofs.YtihmkkjmnbehbaaGreat.Cl
/-- What Give leaves: what was given is gone, all else is as it was. -/
structure GiveOk (s s' : MS) (a : Int) : Prop where
  si : SI s'
  f : s'.f = s.f
  w : s'.w = s.w
  len : s'.l.length = s.l.length
  old : ∀ y j m q, Use s y j m q → y ≠ a → ∃ q', Use s' y j m q' ∧ szP s.w q' = szP s.w q
  only : ∀ y j m q', Use s' y j m q' → y ≠ a ∧ ∃ q, Use s y j m q
theorem give_large {s : MS} (hs : SI s) {x : Int} {i : Nat} {p : Pg} (hu : Use s x i 0 p) (h2 : p.kind = 2) (ok' : (⟨s.f, s.w, clr fre i (pgs s.w p.size).toNat s.l⟩ : MS).ok) : GiveOk s ⟨s.f, s.w, clr fre i (pgs s.w p.size).toNat s.l⟩ x := by
  obtain ⟨_, _, _, h4⟩ := use_in hs.ok hu
  obtain ⟨h5, h6, h7, h8⟩ := h4 h2
  have hc : i + (pgs s.w p.size).toNat ≤ s.l.length := by omega
  have get := clr_get (z := fre) hc
  have rg : ∀ (j : Nat) (q : Pg), s.l[j]? = some q → i ≤ j → j < i + (pgs s.w p.size).toNat → q = p ∧ j = i ∨ q.kind = 3 := fun j q hj h1 h3 => by
    by_cases e : j = i
    · subst e
      rw [hu.1] at hj; cases hj
      exact .inl ⟨rfl, rfl⟩
    · obtain ⟨q', hq', hk⟩ := hs.big i p hu.1 h2 j (by omega) h3
      rw [hj] at hq'; cases hq'
      exact .inr hk
  refine ⟨⟨ok', ?_, ?_, ?_, ?_⟩, rfl, rfl, clr_len hc, ?_, ?_⟩
  · intro j q hj hk2 t t1 t2
    simp only [get] at hj ⊢
    split at hj
    · cases hj; exact absurd hk2 (by decide)
    · rename_i hn
      obtain ⟨q', hq', hk'⟩ := hs.big j q hj hk2 t t1 t2
      refine ⟨q', ?_, hk'⟩
      replace t2 : t < j + (pgs s.w q.size).toNat := t2
      rw [if_neg]
      · exact hq'
      · intro hr
        obtain ⟨t', p', ht, hk'', h10, h11⟩ := hs.own t q' hq' hk'
        have hit : i ≠ t := fun e => by subst e; rw [hu.1] at hq'; cases hq'; omega
        -- j lies below i, its pages reach over i
        have hji : j < i := by
          rcases Nat.lt_trichotomy j i with h | h | h
          · exact h
          · omega
          · omega
        obtain ⟨q3, h12, h13⟩ := hs.big j q hj hk2 i hji (by omega)
        rw [hu.1] at h12; cases h12; omega
  · intro j q hj hk3
    simp only [get] at hj ⊢
    split at hj
    · cases hj; exact absurd hk3 (by decide)
    · rename_i hn
      obtain ⟨t, p', ht, hk', h10, h11⟩ := hs.own j q hj hk3
      refine ⟨t, p', ?_, hk', h10, h11⟩
      rw [if_neg]
      · exact ht
      · intro hr
        rcases rg t p' ht hr.1 hr.2 with ⟨rfl, rfl⟩ | h
        · omega
        · omega
  · intro j q hj hk1
    simp only [get] at hj
    split at hj
    · cases hj; exact absurd hk1 (by decide)
    · exact hs.cell j q hj hk1
  · intro j q hj e1 e2
    simp only [get] at hj
    split at hj
    · cases hj; rfl
    · exact hs.rest j q hj e1 e2
  · intro y j m q h hy
    refine ⟨q, ⟨?_, h.2⟩, rfl⟩
    show (clr fre i _ s.l)[j]? = _
    rw [get, if_neg]
    · exact h.1
    · intro hr
      rcases rg j q h.1 hr.1 hr.2 with ⟨rfl, rfl⟩ | h3
      · rcases h.2 with ⟨_, _, e⟩ | ⟨e, _⟩ <;> omega
      · rcases h.2 with ⟨e, _⟩ | ⟨e, _⟩ <;> omega
  · intro y j m q h
    have hj := h.1
    simp only [get] at hj
    split at hj
    · cases hj
      rcases h.2 with ⟨e, _⟩ | ⟨e, _⟩ <;> exact absurd e (by decide)
    · rename_i hn
      have h' : Use s y j m q := ⟨hj, h.2⟩
      refine ⟨fun e => ?_, q, h'⟩
      subst e
      have := (use_one hs.ok h' hu).1
      subst this
      exact hn ⟨Nat.le_refl _, by omega⟩
theorem give_cell {s : MS} (hs : SI s) {x : Int} {i k : Nat} {p : Pg} (hu : Use s x i k p) (h1 : p.kind = 1) (ok' : (⟨s.f, s.w, s.l.set i (gvP p k)⟩ : MS).ok) : GiveOk s ⟨s.f, s.w, s.l.set i (gvP p k)⟩ x := by
  have hil := (List.getElem?_eq_some_iff.1 hu.1).1
  have get : ∀ j : Nat, (s.l.set i (gvP p k))[j]? = if i = j then some (gvP p k) else s.l[j]? := fun j => by
    rw [List.getElem?_set]
    by_cases e : i = j
    · subst e; simp [hil]
    · simp [e]
  have huk : p.used[k]? = some true := by
    rcases hu.2 with ⟨e, _⟩ | ⟨_, e, _⟩
    · omega
    · exact e
  have hkl := (List.getElem?_eq_some_iff.1 huk).1
  have ugt : ∀ m : Nat, (p.used.set k false)[m]? = if k = m then some false else p.used[m]? := fun m => by
    rw [List.getElem?_set]
    by_cases e : k = m
    · subst e; simp [hkl]
    · simp [e]
  have hgv : (gvP p k = fre ∧ ∀ m : Nat, (p.used.set k false)[m]? ≠ some true) ∨ (gvP p k = ⟨p.kind, p.size, p.used.set k false, p.pend⟩ ∧ ∃ m : Nat, (p.used.set k false)[m]? = some true) := by
    unfold gvP
    cases hn : noneB (p.used.set k false)
    · right
      refine ⟨by simp, ?_⟩
      unfold noneB at hn
      have : (p.used.set k false).any id = true := by simpa using hn
      obtain ⟨b, hb, hb2⟩ := List.any_eq_true.1 this
      obtain ⟨m, hm⟩ := List.mem_iff_getElem?.1 hb
      simp only [id] at hb2
      subst hb2
      exact ⟨m, hm⟩
    · left
      refine ⟨by simp, fun m hm => ?_⟩
      unfold noneB at hn
      have : (p.used.set k false).any id = true := List.any_eq_true.2 ⟨true, List.mem_of_getElem? hm, rfl⟩
      rw [this] at hn; cases hn
  have hk12 : (gvP p k).kind ≠ 2 ∧ (gvP p k).kind ≠ 3 := by
    rcases hgv with ⟨e, _⟩ | ⟨e, _⟩
    · rw [e]; exact ⟨by decide, by decide⟩
    · rw [e]; exact ⟨by show p.kind ≠ 2; omega, by show p.kind ≠ 3; omega⟩
  refine ⟨⟨ok', ?_, ?_, ?_, ?_⟩, rfl, rfl, by simp, ?_, ?_⟩
  · intro j q hj hk2 t t1 t2
    simp only [get] at hj ⊢
    split at hj
    · cases hj; exact absurd hk2 hk12.1
    · obtain ⟨q', hq', hk'⟩ := hs.big j q hj hk2 t t1 t2
      refine ⟨q', ?_, hk'⟩
      rw [if_neg (fun e => by subst e; rw [hu.1] at hq'; cases hq'; omega)]
      exact hq'
  · intro j q hj hk3
    simp only [get] at hj ⊢
    split at hj
    · cases hj; exact absurd hk3 hk12.2
    · obtain ⟨t, p', ht, hk', h10, h11⟩ := hs.own j q hj hk3
      refine ⟨t, p', ?_, hk', h10, h11⟩
      rw [if_neg (fun e => by subst e; rw [hu.1] at ht; cases ht; omega)]
      exact ht
  · intro j q hj hk1
    simp only [get] at hj
    split at hj
    · cases hj
      rcases hgv with ⟨e, _⟩ | ⟨e, e2⟩
      · rw [e] at hk1; exact absurd hk1 (by decide)
      · rw [e]; exact e2
    · exact hs.cell j q hj hk1
  · intro j q hj e1 e2
    simp only [get] at hj
    split at hj
    · cases hj
      rcases hgv with ⟨e, _⟩ | ⟨e, _⟩
      · rw [e]; rfl
      · rw [e] at e1; exact absurd h1 e1
    · exact hs.rest j q hj e1 e2
  · intro y j m q h hy
    by_cases e : i = j
    · subst e
      have e2 := hu.1.symm.trans h.1
      cases e2
      rcases h.2 with ⟨h2, _⟩ | ⟨_, hm, hy2⟩
      · omega
      · have hkm : k ≠ m := fun e => by
          subst e
          rcases hu.2 with ⟨h2, _⟩ | ⟨_, _, hx⟩
          · omega
          · omega
        have hm' : (p.used.set k false)[m]? = some true := by rw [ugt, if_neg hkm]; exact hm
        rcases hgv with ⟨e, hn⟩ | ⟨e, _⟩
        · exact absurd hm' (hn m)
        · exact ⟨⟨p.kind, p.size, p.used.set k false, p.pend⟩, ⟨by show (s.l.set i _)[i]? = _; rw [get, if_pos rfl, e], .inr ⟨h1, hm', hy2⟩⟩, rfl⟩
    · exact ⟨q, ⟨by show (s.l.set i _)[j]? = _; rw [get, if_neg e]; exact h.1, h.2⟩, rfl⟩
  · intro y j m q h
    have hj := h.1
    simp only [get] at hj
    split at hj
    · rename_i e
      subst e
      cases hj
      rcases hgv with ⟨e, _⟩ | ⟨e, _⟩
      · have h3 := h.2
        rw [e] at h3
        rcases h3 with ⟨h4, _⟩ | ⟨h4, _⟩ <;> exact absurd h4 (by decide)
      · have h3 := h.2
        rw [e] at h3
        rcases h3 with ⟨h4, _⟩ | ⟨_, h4, h5⟩
        · exact absurd (h1.symm.trans h4) (by decide)
        · have h4' : (p.used.set k false)[m]? = some true := h4
          rw [ugt] at h4'
          split at h4'
          · simp at h4'
          · rename_i hkm
            have h' : Use s y i m p := ⟨hu.1, .inr ⟨h1, h4', h5⟩⟩
            refine ⟨fun e => ?_, p, h'⟩
            subst e
            exact hkm ((use_one hs.ok hu h').2.1)
    · rename_i e
      have h' : Use s y j m q := ⟨hj, h.2⟩
      refine ⟨fun e2 => ?_, q, h'⟩
      subst e2
      exact e (use_one hs.ok hu h').1
theorem give_spec {s : MS} (hs : SI s) {x : Int} {i k : Nat} {p : Pg} (hu : Use s x i k p) : GiveOk s (s.give x) x := by
  have ok' := give_ok hs.ok x
  unfold MS.give giveR at ok' ⊢
  simp only [use_at hs.ok hu, hu.1] at ok' ⊢
  rcases hu.2 with ⟨h2, rfl, _⟩ | ⟨h1, _, _⟩
  · rw [if_pos h2] at ok' ⊢
    exact give_large hs hu h2 ok'
  · have h2 : ¬ p.kind = 2 := by omega
    rw [if_neg h2] at ok' ⊢
    exact give_cell hs hu h1 ok'
theorem give_not {s : MS} {x : Int} (h : s.has x = false) : s.give x = s := by
  unfold MS.has at h
  have : atO s.f s.w s.l x = none := by
    cases ho : atO s.f s.w s.l x with
    | none => rfl
    | some y => rw [ho] at h; cases h
  unfold MS.give giveR
  rw [this]
theorem si_give {s : MS} (hs : SI s) (x : Int) : SI (s.give x) := by
  cases h : s.has x
  · rw [give_not h]; exact hs
  · obtain ⟨i, k, p, hu⟩ := (has_iff hs.ok).1 h
    exact (give_spec hs hu).si
/-- What begins in a page of cells. -/
theorem sv_iff {B sz : Int} {u : List Bool} {k : Nat} {x : Int} : x ∈ sv B sz u k ↔ ∃ j : Nat, u[j]? = some true ∧ x = B + ((k + j : Nat) : Int) * sz := by
  induction u generalizing k with
  | nil => simp [sv]
  | cons y r ih =>
    unfold sv
    rw [List.mem_append, ih]
    constructor
    · rintro (h | ⟨j, h1, h2⟩)
      · split at h
        · rename_i hy
          exact ⟨0, by simpa using hy, by simpa using h⟩
        · cases h
      · exact ⟨j + 1, by simpa using h1, by rw [h2]; congr 2; omega⟩
    · rintro ⟨j, h1, h2⟩
      cases j with
      | zero =>
        left
        simp at h1
        subst h1
        simpa using h2
      | succ j => exact .inr ⟨j, by simpa using h1, by rw [h2]; congr 2; omega⟩
theorem stP_iff {s : MS} (hs : s.ok) {i : Nat} {p : Pg} (hp : s.l[i]? = some p) {x : Int} : x ∈ stP s.f s.w i p ↔ ∃ k, Use s x i k p := by
  have hpk := hs.2.2.2.1 p (List.mem_of_getElem? hp)
  unfold stP
  by_cases h2 : p.kind = 2
  · rw [if_pos h2]
    constructor
    · intro h; exact ⟨0, hp, .inl ⟨h2, rfl, by simpa using h⟩⟩
    · rintro ⟨k, _, h | h⟩
      · simpa using h.2.2
      · omega
  · rw [if_neg h2, sv_iff]
    constructor
    · rintro ⟨j, h1, h3⟩
      have hk1 : p.kind = 1 := by
        rcases hpk with ⟨h, _⟩ | ⟨_, h, _⟩
        · exact h
        · rw [h] at h1; simp at h1
      exact ⟨j, hp, .inr ⟨hk1, h1, by rw [h3, Nat.zero_add]⟩⟩
    · rintro ⟨k, _, h | h⟩
      · exact absurd h.1 h2
      · exact ⟨k, h.2.1, by rw [Nat.zero_add]; exact h.2.2⟩
theorem stL_iff {s : MS} (hs : s.ok) {fr te x : Int} : ∀ (n j : Nat), n = s.l.length - j → (x ∈ stL s.f s.w fr te (s.l.drop j) j ↔ fr ≤ x ∧ x < te ∧ ∃ i k p, j ≤ i ∧ Use s x i k p) := by
  intro n
  induction n with
  | zero =>
    intro j hn
    rw [List.drop_of_length_le (by omega)]
    constructor
    · intro h; cases h
    · rintro ⟨_, _, i, k, p, h1, h2⟩
      have := (List.getElem?_eq_some_iff.1 h2.1).1
      omega
  | succ n ih =>
    intro j hn
    have hj : j < s.l.length := by omega
    have hp : s.l[j]? = some s.l[j] := List.getElem?_eq_getElem hj
    rw [stL_drop hp, List.mem_append, ih (j + 1) (by omega)]
    constructor
    · rintro (h | ⟨h1, h2, i, k, p, h3, h4⟩)
      · split at h
        · cases h
        · unfold inn at h
          rw [List.mem_filter] at h
          obtain ⟨h1, h2⟩ := h
          simp only [Bool.and_eq_true, decide_eq_true_eq] at h2
          obtain ⟨k, hk⟩ := (stP_iff hs hp).1 h1
          exact ⟨h2.1, h2.2, j, k, _, Nat.le_refl _, hk⟩
      · exact ⟨h1, h2, i, k, p, by omega, h4⟩
    · rintro ⟨h1, h2, i, k, p, h3, h4⟩
      by_cases e : i = j
      · subst e
        have e2 := hp.symm.trans h4.1
        left
        obtain ⟨a1, a2, a3, a4⟩ := use_in hs h4
        have w0 := hs.2.1.1
        have hlt : x < s.f + i * s.w + s.w := by
          rcases h4.2 with ⟨b1, _⟩ | ⟨b1, _⟩
          · have := a4 b1; omega
          · have := a3 b1; omega
        rw [if_neg (by omega)]
        unfold inn
        rw [List.mem_filter]
        exact ⟨(stP_iff hs hp).2 ⟨k, by cases e2; exact h4⟩, by simp [h1, h2]⟩
      · exact .inr ⟨h1, h2, i, k, p, by omega, h4⟩
theorem starts_iff {s : MS} (hs : s.ok) {fr te x : Int} : x ∈ stL s.f s.w fr te s.l 0 ↔ fr ≤ x ∧ x < te ∧ s.has x = true := by
  have := stL_iff hs (fr := fr) (te := te) (x := x) s.l.length 0 (by omega)
  rw [List.drop_zero] at this
  rw [this, has_iff hs]
  constructor
  · rintro ⟨h1, h2, i, k, p, _, h⟩; exact ⟨h1, h2, i, k, p, h⟩
  · rintro ⟨h1, h2, i, k, p, h⟩; exact ⟨h1, h2, i, k, p, by omega, h⟩
/-- Where nothing is in use all pages are free. -/
theorem none_free {s : MS} (hs : SI s) (h : ∀ x, s.has x = false) : ∀ p ∈ s.l, p.kind = 0 ∧ p.used = [] := by
  have no : ∀ x i k p, ¬ Use s x i k p := fun x i k p hu => by
    have := (has_iff hs.ok).2 ⟨i, k, p, hu⟩
    rw [h] at this; cases this
  have n2 : ∀ (i : Nat) (p : Pg), s.l[i]? = some p → p.kind ≠ 2 := fun i p hp h2 => no _ i 0 p ⟨hp, .inl ⟨h2, rfl, rfl⟩⟩
  intro p hp
  obtain ⟨i, hi⟩ := List.mem_iff_getElem?.1 hp
  have hk2 := n2 i p hi
  have hk1 : p.kind ≠ 1 := fun h1 => by
    obtain ⟨k, hk⟩ := hs.cell i p hi h1
    exact no _ i k p ⟨hi, .inr ⟨h1, hk, rfl⟩⟩
  have hk3 : p.kind ≠ 3 := fun h3 => by
    obtain ⟨t, p', ht, h2, _⟩ := hs.own i p hi h3
    exact n2 t p' ht h2
  rcases hs.ok.2.2.2.1 p hp with ⟨h1, _⟩ | ⟨_, h1, h4, h5, _⟩
  · exact absurd h1 hk1
  · exact ⟨by omega, h1⟩
theorem none_all {s : MS} (hs : SI s) (h : ∀ x, s.has x = false) : freeN s.l = s.l.length ∧ usL s.f s.w s.l s.l 0 = 0 ∧ ∀ fr te, stL s.f s.w fr te s.l 0 = [] := by
  have hp := none_free hs h
  refine ⟨?_, ?_, fun fr te => ?_⟩
  · unfold freeN
    rw [List.countP_eq_length]
    intro p hm
    simp [(hp p hm).1]
  · have : ∀ (l : List Pg) (i : Nat), (∀ p ∈ l, p.kind = 0 ∧ p.used = []) → usL s.f s.w s.l l i = 0 := by
      intro l
      induction l with
      | nil => intro i _; rfl
      | cons p r ih =>
        intro i hl
        obtain ⟨h1, h2⟩ := hl p List.mem_cons_self
        unfold usL
        rw [ih (i + 1) (fun q hq => hl q (List.mem_cons_of_mem _ hq))]
        have : stP s.f s.w i p = [] := by unfold stP; rw [if_neg (by omega), h2]; rfl
        rw [this]; rfl
    exact this s.l 0 hp
  · have := fun x => starts_iff hs.ok (fr := fr) (te := te) (x := x)
    apply List.eq_nil_iff_forall_not_mem.2
    intro x hx
    have h1 := (this x).1 hx
    rw [h] at h1
    cases h1.2.2
end Go.Proofs.YtihmkkjmnbehbaaGreat.Ma
/- MatureApart as a contract. Condition: the sizes are words of 16 bits. -/
set_option linter.unusedVariables false
set_option linter.unusedSimpArgs false
namespace Go.Proofs.YtihmkkjmnbehbaaGreat.Ma
open Go.RowKit Go.Proofs.YtihmkkjmnbehbaaGreat.W Go.Proofs.YtihmkkjmnbehbaaGreat.Cl
/-- A space in which just what is listed is in use. -/
structure AI (f n : Int) (p : Nat) (s : MS) (D : List Int) : Prop where
  si : SI s
  f : s.f = f
  w : s.w = n
  len : s.l.length = p
  nodup : D.Nodup
  mem : ∀ x, s.has x = true ↔ x ∈ D
theorem has_use {s : MS} (hs : s.ok) {x : Int} (h : s.has x = true) : ∃ i k p, Use s x i k p ∧ s.size x = szP s.w p := by
  obtain ⟨i, k, p, hu⟩ := (has_iff hs).1 h
  exact ⟨i, k, p, hu, use_size hs hu⟩
theorem ai_take {f n : Int} {p : Nat} {s : MS} {D : List Int} (h : AI f n p s D) {x a : Int} (hx : x ≤ 1099511627776) (ht : s.took x = some a) :
    AI f n p (s.take x) (D ++ [a]) ∧ (s.take x).has a = true ∧ x ≤ (s.take x).size a ∧ f ≤ a ∧ a + (s.take x).size a ≤ f + p * n ∧ (∀ y ∈ D, (s.take x).has y = true ∧ (y + (s.take x).size y ≤ a ∨ a + (s.take x).size a ≤ y)) := by
  have t := take_spec h.si (by omega) ht
  have hm : ∀ y, (s.take x).has y = true ↔ y ∈ D ++ [a] := fun y => by
    rw [has_iff t.si.ok, List.mem_append, ← h.mem, has_iff h.si.ok]
    constructor
    · rintro ⟨i, k, q, hu⟩
      rcases t.only _ _ _ _ hu with e | ⟨q', hq⟩
      · right; simpa using e
      · exact .inl ⟨i, k, q', hq⟩
    · rintro (⟨i, k, q, hu⟩ | e)
      · obtain ⟨_, q', hq, _⟩ := t.old _ _ _ _ hu
        exact ⟨i, k, q', hq⟩
      · obtain ⟨i, k, q, hu, _⟩ := t.new
        simp only [List.mem_singleton] at e
        subst e
        exact ⟨i, k, q, hu⟩
  have hna : a ∉ D := fun e => by
    obtain ⟨i, k, q, hu⟩ := (has_iff h.si.ok).1 ((h.mem a).2 e)
    exact (t.old _ _ _ _ hu).1 rfl
  obtain ⟨i, k, q, hu, hsz, _⟩ := t.new
  have es := use_size t.si.ok hu
  have eb := use_end t.si.ok hu
  rw [t.f, t.w, t.len, h.f, h.w, h.len] at eb
  rw [t.w, h.w] at es
  have hsz' := hsz (by omega)
  rw [h.w] at hsz'
  refine ⟨⟨t.si, t.f.trans h.f, t.w.trans h.w, t.len.trans h.len, ?_, hm⟩, (hm a).2 (by simp), by rw [es]; exact hsz', eb.1, by rw [es]; exact eb.2, fun y hy => ?_⟩
  · rw [List.nodup_append]
    exact ⟨h.nodup, by simp, fun x hx y hy e => by simp at hy; subst hy; subst e; exact hna hx⟩
  · have hhy : (s.take x).has y = true := (hm y).2 (by simp [hy])
    obtain ⟨j, m, r, hv, ev⟩ := has_use t.si.ok hhy
    refine ⟨hhy, ?_⟩
    have := use_apart t.si hv hu (fun e => by subst e; exact hna hy)
    rw [ev, es, ← h.w, ← t.w]
    exact this
theorem ai_give {f n : Int} {p : Nat} {s : MS} {a : Int} {D : List Int} (h : AI f n p s (a :: D)) : s.has a = true ∧ AI f n p (s.give a) D := by
  have ha : s.has a = true := (h.mem a).2 List.mem_cons_self
  obtain ⟨i, k, q, hu⟩ := (has_iff h.si.ok).1 ha
  have g := give_spec h.si hu
  refine ⟨ha, g.si, g.f.trans h.f, g.w.trans h.w, g.len.trans h.len, (List.nodup_cons.1 h.nodup).2, fun y => ?_⟩
  have hn := (List.nodup_cons.1 h.nodup).1
  rw [has_iff g.si.ok]
  constructor
  · rintro ⟨j, m, r, hv⟩
    obtain ⟨e, r', hr⟩ := g.only _ _ _ _ hv
    have := (h.mem y).1 ((has_iff h.si.ok).2 ⟨j, m, r', hr⟩)
    rcases List.mem_cons.1 this with e2 | e2
    · exact absurd e2 e
    · exact e2
  · intro hy
    obtain ⟨j, m, r, hv⟩ := (has_iff h.si.ok).1 ((h.mem y).2 (List.mem_cons_of_mem _ hy))
    obtain ⟨r', hr, _⟩ := g.old _ _ _ _ hv (fun e => by subst e; exact hn hy)
    exact ⟨j, m, r', hr⟩
theorem ai_none {f n : Int} {p : Nat} {s : MS} (h : AI f n p s []) : ∀ x, s.has x = false := fun x => by
  cases e : s.has x
  · rfl
  · exact absurd ((h.mem x).1 e) (by simp)
theorem ai_new {f n : Int} {p : Nat} (h0 : 0 ≤ f ∧ f ≤ 1048576) (h1 : 1 ≤ n ∧ n ≤ 256) (h2 : p ≤ 64) : AI f n p (mnew f p n) [] := by
  have e1 : cut3 0 1048576 f = f := by unfold cut3; rw [if_neg (by omega), if_neg (by omega)]
  have e2 : cut3 1 256 n = n := by unfold cut3; rw [if_neg (by omega), if_neg (by omega)]
  have e3 : cut3 0 64 (p : Int) = p := by unfold cut3; rw [if_neg (by omega), if_neg (by omega)]
  refine ⟨si_new _ _ _, e1, e2, by simp [mnew, e3], List.nodup_nil, fun x => ⟨fun h => ?_, fun h => absurd h (by simp)⟩⟩
  obtain ⟨i, k, q, hq, hu⟩ := (has_iff (mnew_ok _ _ _)).1 h
  have := List.eq_of_mem_replicate (List.mem_of_getElem? hq)
  rw [this] at hu
  rcases hu with ⟨h, _⟩ | ⟨h, _⟩ <;> exact absurd h (by decide)
end Go.Proofs.YtihmkkjmnbehbaaGreat.Ma
/- MatureApart as a contract. Condition: the sizes are words of 16 bits. -/
set_option linter.unusedVariables false
set_option linter.unusedSimpArgs false
namespace Go.Proofs.YtihmkkjmnbehbaaGreat.Ma
open Go.RowKit Go.Proofs.YtihmkkjmnbehbaaGreat.W Go.Proofs.YtihmkkjmnbehbaaGreat.Cl
abbrev rowI8 (A : Option Addr) (c : Nat) (D : List Int) : Pr := rowP 3 A D.length c (D.map (Value.int .i64))
theorem row_at {W w : World} {oo : Nat → Prop} {l : List Pr} {A : Option Addr} {c : Nat} {D : List Int} (h : SepO W oo w l) (k : Nat) (hk : l[k]? = some (rowI8 A c D)) {i : Nat} (hi : i < D.length) : ∃ G off, A = some ⟨G, off, none⟩ ∧ w.cell? ⟨G, off + i, none⟩ = some (.int .i64 D[i]) := by
  obtain ⟨o, h1, _⟩ := h.sl (k' := .i64) (e := 3) (A := A) (c := c) (L := D) k hk
  obtain ⟨A', c', e, _, h3⟩ := h1
  simp only [Value.slice.injEq, true_and] at e
  obtain ⟨rfl, rfl⟩ := e
  obtain ⟨G, off, rfl, _, _, h4⟩ := h3 (by omega)
  exact ⟨G, off, rfl, by rw [h4 i hi]; simp [hi]⟩
theorem old_at {w : World} {A : Option Addr} {l : List Int} {k : IntKind} (hc : 0 < l.length → ∃ b o, A = some ⟨b, o, none⟩ ∧ (fun i => i < w.heap.size) b ∧ b < w.heap.size ∧ ∀ j, j < l.length → w.cell? ⟨b, o + j, none⟩ = some (.int k (l[j]?.getD 0))) {j : Nat} (hj : j < l.length) :
    ∃ b o, A = some ⟨b, o, none⟩ ∧ ∀ wr, Keep (fun _ => False) w wr → wr.cell? ⟨b, o + j, none⟩ = some (.int k l[j]) := by
  obtain ⟨b, o, hA, _, hlt, h⟩ := hc (by omega)
  refine ⟨b, o, hA, fun wr hk => ?_⟩
  rw [World.cell?_of_block (hk.block b hlt (fun h => h)), h j hj]
  simp [hj]
end Go.Proofs.YtihmkkjmnbehbaaGreat.Ma
