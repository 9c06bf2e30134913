/- WholeRing as a contract. Condition: what is taken in reads as lists. -/
import Derived.Test.YtihmkkjmnbehbaaGreatMg39
import Derived.Test.YtihmkkjmnbehbaaGreatMg43
import Derived.Deep.LoopGhost
import Derived.Deep.RegionHeld3
import Derived.BigQuiet
/- Full work on a heap that holds nothing: all is free behind it. No condition. -/
set_option linter.unusedVariables false
set_option linter.unusedSimpArgs false
namespace Go.Proofs.YtihmkkjmnbehbaaGreat.Wh
open Go.RowKit Go.Proofs.YtihmkkjmnbehbaaGreat.W
/-- So many bits of either cycle. -/
def itMin : Nat → CS → CS
  | 0, S => S
  | k + 1, S => itMin k S.minStep.2
def itMaj : Nat → CS → CS
  | 0, S => S
  | k + 1, S => itMaj k S.majStep.2
/-- What finishing what is begun, and full work, come to. -/
def FinR (S S' : CS) : Prop := ∃ i j, (itMin i S).mv = false ∧ (itMaj j (itMin i S)).ph = 0 ∧ S' = itMaj j (itMin i S)
def FullR (S S' : CS) : Prop := ∃ T i j, FinR S T ∧ (itMaj i T.majStart.2).ph = 0 ∧ (itMin j (itMaj i T.majStart.2).minStart.2).mv = false ∧ S' = itMin j (itMaj i T.majStart.2).minStart.2
theorem itMin_inv {P : CS → Prop} (hs : ∀ S, P S → P S.minStep.2) : ∀ k S, P S → P (itMin k S) := by
  intro k
  induction k with
  | zero => intro S h; exact h
  | succ k ih => intro S h; exact ih _ (hs S h)
theorem itMaj_inv {P : CS → Prop} (hs : ∀ S, P S → P S.majStep.2) : ∀ k S, P S → P (itMaj k S) := by
  intro k
  induction k with
  | zero => intro S h; exact h
  | succ k ih => intro S h; exact ih _ (hs S h)
section
variable {c : CF} {S : CS} {G : Gr.GS}
theorem GG.minStep (h : GG c S G) : GG c S.minStep.2 G := by
  obtain ⟨⟨m, R, h⟩, hc⟩ := h
  obtain ⟨m', R', h1, h2, _⟩ := h.minStep
  exact ⟨⟨m', R', h1⟩, h2.trans hc⟩
theorem GG.majStep (h : GG c S G) : GG c S.majStep.2 G ∧ Far S S.majStep.2 := by
  obtain ⟨⟨m, R, h⟩, hc⟩ := h
  obtain ⟨m', R', h1, h2, _⟩ := h.majStep
  exact ⟨⟨⟨m', R', h1⟩, h2.c.trans hc⟩, h2⟩
theorem GG.minStart (h : GG c S G) : GG c S.minStart.2 G := by
  obtain ⟨⟨m, R, h⟩, hc⟩ := h
  obtain ⟨m', h1, h2, _⟩ := h.minStart
  exact ⟨⟨m', R, h1⟩, h2.trans hc⟩
theorem GG.majStart (h : GG c S G) : GG c S.majStart.2 G ∧ Far S S.majStart.2 := by
  obtain ⟨⟨m, R, h⟩, hc⟩ := h
  obtain ⟨m', h1, h2, _⟩ := h.majStart
  exact ⟨⟨⟨m', R, h1⟩, h2.c.trans hc⟩, h2⟩
/-- Handles hold nothing. -/
theorem GG.tb0 (h : GG c S G) (hG : ∀ x ∈ G.hs, x = 0) : ∀ x ∈ S.tb, x = 0 := by
  obtain ⟨⟨m, R, h⟩, hc⟩ := h
  intro x hx
  obtain ⟨i, hi, e⟩ := List.getElem_of_mem hx
  have := h.inv.sim.tbD i hi
  rw [List.getElem?_eq_getElem hi, e] at this
  rcases this with ⟨e, _⟩ | ⟨h1, _⟩
  · exact e
  · exfalso; apply h1
    have hl := h.inv.sim.hl
    rw [List.getElem?_eq_getElem (by omega)]
    exact hG _ (List.getElem_mem _)
theorem markL_zero : ∀ (L : List Int) (S : CS), (∀ x ∈ L, x = 0) → CS.markL L S = S := by
  intro L
  induction L with
  | nil => intro S _; rfl
  | cons a r ih =>
    intro S h
    unfold CS.markL
    have : S.mark a = S := by unfold CS.mark; rw [if_pos (.inl (h a List.mem_cons_self))]
    rw [this]
    exact ih S (fun x hx => h x (List.mem_cons_of_mem _ hx))
theorem sweepL_has : ∀ (L : List Int) (S : CS), Ma.SI S.o → Ma.SI (CS.sweepL L S).o ∧ (∀ a, (CS.sweepL L S).o.has a = true → S.o.has a = true) ∧ CS.sweepL L S = { S with o := (CS.sweepL L S).o } := by
  intro L
  induction L with
  | nil => intro S h; exact ⟨h, fun a h => h, rfl⟩
  | cons x r ih =>
    intro S h
    unfold CS.sweepL
    split
    · cases hx : S.o.has x with
      | true =>
        have g := Ma.give_has h hx
        obtain ⟨h1, h2, h3⟩ := ih { S with o := S.o.give x } g.si
        exact ⟨h1, fun a ha => ((g.iff a).1 (h2 a ha)).2, h3⟩
      | false => rw [Ma.give_not hx]; exact ih S h
    · exact ih S h
/-- All that is old is to go. -/
structure Doom (c : CF) (G : Gr.GS) (S : CS) : Prop where
  gg : GG c S G
  mv : S.mv = false
  mks : S.ph = 1 → S.gl = [] ∧ S.gz = false ∧ S.look = -1
  par : ∀ a, S.o.has a = true → (S.hd a).par ≠ S.par
theorem GG.si (h : GG c S G) : Ma.SI S.o := by obtain ⟨⟨m, R, h⟩, hc⟩ := h; exact h.inv.geo.si
theorem Doom.step (h : Doom c G S) : Doom c G S.majStep.2 := by
  obtain ⟨g1, f1⟩ := h.gg.majStep
  refine ⟨g1, f1.mv.trans h.mv, ?_, ?_⟩
  · by_cases h0 : S.ph = 0
    · have e : S.majStep = ((0, false), S) := by unfold CS.majStep; rw [if_pos h0]
      rw [e]; exact h.mks
    · by_cases h1 : S.ph = 1
      · obtain ⟨k1, k2, k3⟩ := h.mks h1
        have e : S.majStep.2 = { S with ph := 2, o := S.o.pend } := by
          unfold CS.majStep; rw [if_neg h0, if_pos h1]
          unfold CS.markS; rw [k1, k2, k3]; rfl
        rw [e]; intro hh; cases hh
      · have e : S.majStep = S.sweep := by unfold CS.majStep; rw [if_neg h0, if_neg h1]
        rw [e]
        unfold CS.sweep
        split
        · intro hh; cases hh
        · intro hh
          exfalso; apply h1
          have := (sweepL_has (Ma.stL S.o.f S.o.w (pgF S.o (by assumption : Nat)) (pgT S.o (by assumption : Nat)) S.o.l 0) S h.gg.si).2.2
          dsimp only at hh
          rw [this] at hh
          exact hh
  · by_cases h0 : S.ph = 0
    · have e : S.majStep = ((0, false), S) := by unfold CS.majStep; rw [if_pos h0]
      rw [e]; exact h.par
    · by_cases h1 : S.ph = 1
      · obtain ⟨k1, k2, k3⟩ := h.mks h1
        have e : S.majStep.2 = { S with ph := 2, o := S.o.pend } := by
          unfold CS.majStep; rw [if_neg h0, if_pos h1]
          unfold CS.markS; rw [k1, k2, k3]; rfl
        rw [e]
        intro a ha
        exact h.par a (by rw [← (Ma.pend_has h.gg.si).1.iff a]; exact ha)
      · have e : S.majStep = S.sweep := by unfold CS.majStep; rw [if_neg h0, if_neg h1]
        rw [e]
        unfold CS.sweep
        split
        · exact h.par
        · rename_i n hn
          obtain ⟨s1, s2, s3⟩ := sweepL_has (Ma.stL S.o.f S.o.w (pgF S.o n) (pgT S.o n) S.o.l 0) S h.gg.si
          intro a ha
          dsimp only at ha ⊢
          rw [(Ma.done_has s1).1.iff] at ha
          have := h.par a (s2 a ha)
          rw [s3]
          exact this
theorem Doom.start (h : GG c S G) (hG : ∀ x ∈ G.hs, x = 0) (hm : S.mv = false) (h0 : S.ph = 0) : Doom c G S.majStart.2 := by
  have tb := h.tb0 hG
  obtain ⟨g1, f1⟩ := h.majStart
  have e : S.majStart.2 = { S with ph := 1, par := wrap64 (1 - S.par), look := -1 } := by
    unfold CS.majStart; rw [if_neg (fun hh => hh h0)]
    exact markL_zero _ _ tb
  refine ⟨g1, f1.mv.trans hm, ?_, ?_⟩
  · rw [e]
    intro _
    obtain ⟨⟨m, R, h⟩, hc⟩ := h
    obtain ⟨a, b⟩ := h.inv.mks.oth (by omega)
    exact ⟨a, b, rfl⟩
  · rw [e]
    obtain ⟨⟨m, R, h⟩, hc⟩ := h
    intro a ha
    obtain ⟨p, hp⟩ := h.inv.geo.all a ha
    have p1 := h.inv.mks.idl h0 a p hp (h.inv.geo.hasm ha).1
    have p2 : S.hd a = p.hd := h.inv.hd hp
    have p01 := h.inv.mks.p01
    show (S.hd a).par ≠ wrap64 (1 - S.par)
    rw [p2, p1]
    unfold wrap64; omega
theorem Doom.none (h : Doom c G S) (h0 : S.ph = 0) : ∀ a, S.o.has a = false := by
  intro a
  cases ha : S.o.has a with
  | false => rfl
  | true =>
    exfalso
    apply h.par a ha
    obtain ⟨⟨m, R, g⟩, hc⟩ := h.gg
    obtain ⟨p, hp⟩ := g.inv.geo.all a ha
    rw [g.inv.hd hp]
    exact g.inv.mks.idl h0 a p hp (g.inv.geo.hasm ha).1
/-- Nothing is left. -/
structure Void (c : CF) (G : Gr.GS) (S : CS) : Prop where
  gg : GG c S G
  no : ∀ a, S.o.has a = false
  row : S.row = []
  used : S.y.used = 0
  scan : S.mv = true → S.y.here ≤ S.scan
theorem noted_no {a : Int} (h : S.o.has a = false) : S.noted a = (0, S) := by unfold CS.noted; rw [if_pos h]
theorem partL_no : ∀ (L : List Int) (n : Int) (S : CS), (∀ a, S.o.has a = false) → CS.partL L n S = (n, S) := by
  intro L
  induction L with
  | nil => intro n S _; rfl
  | cons a r ih =>
    intro n S h
    unfold CS.partL
    rw [noted_no (h a)]
    rw [ih (n + 0) S h, Int.add_zero]
theorem Void.step (h : Void c G S) : Void c G S.minStep.2 := by
  have g1 := h.gg.minStep
  by_cases hm : S.mv = true
  · rw [step_nil hm h.row] at g1 ⊢
    have pn := fun f t => partL_no (Ma.stL S.o.f S.o.w f t S.o.l 0) 0 { S with r := S.r.next } h.no
    have nn := noted_no (S := { S with r := S.r.next }) (h.no S.r.said.1.1)
    split
    · rename_i k1
      rw [if_pos k1] at g1
      split
      · rename_i k2
        rw [if_pos k2] at g1
        have e : CS.part { S with r := S.r.next } S.r.said.1.1 S.r.said.1.2 = (0, { S with r := S.r.next }) := pn _ _
        rw [e] at g1 ⊢
        exact ⟨g1, h.no, h.row, h.used, h.scan⟩
      · rename_i k2
        rw [if_neg k2, nn] at g1
        rw [nn]
        exact ⟨g1, h.no, h.row, h.used, h.scan⟩
    · rename_i k1
      rw [if_neg k1] at g1
      have sc := h.scan hm
      have u := h.used
      rw [if_neg (by omega)] at g1 ⊢
      refine ⟨g1, h.no, h.row, ?_, fun hh => by cases hh⟩
      show S.y.drop.used = 0
      rw [← u]
      unfold Bp.Sp.drop Bp.Sp.used
      cases S.y.now <;> rfl
  · have hm : S.mv = false := by simpa using hm
    have e : S.minStep = ((0, false), S) := by unfold CS.minStep; rw [if_pos hm]
    rw [e]; exact h
theorem moveT_zero : ∀ (L : List Int) (k : Nat) (S : CS), (∀ x ∈ L, x = 0) → (CS.moveT L k S).o = S.o ∧ (CS.moveT L k S).row = S.row ∧ (CS.moveT L k S).y = S.y ∧ (CS.moveT L k S).scan = S.scan := by
  intro L
  induction L with
  | nil => intro k S _; exact ⟨rfl, rfl, rfl, rfl⟩
  | cons a r ih =>
    intro k S h
    unfold CS.moveT
    have : S.move a = (a, S) := by unfold CS.move; rw [if_pos (.inl (h a List.mem_cons_self))]
    rw [this]
    exact ih (k + 1) (S.set k a) (fun x hx => h x (List.mem_cons_of_mem _ hx))
theorem Void.start (h : GG c S G) (hG : ∀ x ∈ G.hs, x = 0) (hm : S.mv = false) (no : ∀ a, S.o.has a = false) : Void c G S.minStart.2 := by
  have tb := h.tb0 hG
  have g1 := h.minStart
  have lf : S.y.left = 0 := by obtain ⟨⟨m, R, h⟩, hc⟩ := h; exact h.inv.geo.nmv hm
  have e : S.minStart.2 = CS.moveT S.tb 0 { S with y := S.y.flip, r := S.r.flip, mv := true, cop := 0, row := [], scan := S.y.flip.here } := by
    unfold CS.minStart; rw [if_neg (by rw [hm]; simp), if_neg (by omega)]
  obtain ⟨m1, m2, m3, m4⟩ := moveT_zero S.tb 0 { S with y := S.y.flip, r := S.r.flip, mv := true, cop := 0, row := [], scan := S.y.flip.here } tb
  refine ⟨g1, fun a => ?_, ?_, ?_, fun _ => ?_⟩
  · rw [e, m1]; exact no a
  · rw [e, m2]
  · rw [e, m3]
    show S.y.flip.used = 0
    rw [← lf]
    unfold Bp.Sp.flip
    rw [if_neg (by omega)]
    unfold Bp.Sp.used Bp.Sp.left
    cases S.y.now <;> rfl
  · rw [e, m3, m4]; exact Int.le_refl _
theorem FinR.gg {S' : CS} (h : GG c S G) (f : FinR S S') : GG c S' G ∧ S'.mv = false ∧ S'.ph = 0 := by
  obtain ⟨i, j, h1, h2, rfl⟩ := f
  have g1 : GG c (itMin i S) G := itMin_inv (P := fun S => GG c S G) (fun S h => h.minStep) i S h
  have g2 := itMaj_inv (P := fun S => GG c S G ∧ S.mv = false) (fun S h => ⟨h.1.majStep.1, h.1.majStep.2.mv.trans h.2⟩) j _ ⟨g1, h1⟩
  exact ⟨g2.1, g2.2, h2⟩
/-- Behind full work nothing is there where handles hold nothing. -/
theorem full_void {S' : CS} (h : GG c S G) (hG : ∀ x ∈ G.hs, x = 0) (f : FullR S S') : GG c S' G ∧ S'.y.used + S'.y.left = 0 ∧ Ma.usL S'.o.f S'.o.w S'.o.l S'.o.l 0 = 0 := by
  obtain ⟨T, i, j, f1, h1, h2, rfl⟩ := f
  obtain ⟨g1, m1, p1⟩ := f1.gg h
  have d1 := Doom.start g1 hG m1 p1
  have d2 : Doom c G (itMaj i T.majStart.2) := itMaj_inv (P := Doom c G) (fun S h => h.step) i _ d1
  have v1 := Void.start d2.gg hG d2.mv (d2.none h1)
  have v2 : Void c G (itMin j (itMaj i T.majStart.2).minStart.2) := itMin_inv (P := Void c G) (fun S h => h.step) j _ v1
  refine ⟨v2.gg, ?_, (Ma.none_all v2.gg.si v2.no).2.1⟩
  have lf : (itMin j (itMaj i T.majStart.2).minStart.2).y.left = 0 := by obtain ⟨⟨m, R, h⟩, hc⟩ := v2.gg; exact h.inv.geo.nmv h2
  rw [v2.used, lf]; rfl
end
end Go.Proofs.YtihmkkjmnbehbaaGreat.Wh
/- Full work: the walks. Condition: the heap is as it should be. -/
set_option linter.unusedVariables false
set_option linter.unusedSimpArgs false
namespace Go.Proofs.YtihmkkjmnbehbaaGreat.Wh
open Go.RowKit Go.Proofs.YtihmkkjmnbehbaaGreat.W Go.Proofs.YtihmkkjmnbehbaaGreat.Sm
theorem itMin_succ : ∀ (k : Nat) (S : CS), itMin (k + 1) S = (itMin k S).minStep.2 := by
  intro k
  induction k with
  | zero => intro S; rfl
  | succ k ih => intro S; show itMin (k + 1) S.minStep.2 = _; rw [ih]; rfl
theorem itMaj_succ : ∀ (k : Nat) (S : CS), itMaj (k + 1) S = (itMaj k S).majStep.2 := by
  intro k
  induction k with
  | zero => intro S; rfl
  | succ k ih => intro S; show itMaj (k + 1) S.majStep.2 = _; rw [ih]; rfl
theorem Ok.mms {S : CS} (h : Ok S) (hm : S.mv = true) : 0 ≤ mms S ∧ (S.minStep.2.mv = true → mms S.minStep.2 < mms S) := by
  obtain ⟨m, R, G, h⟩ := h
  obtain ⟨m', R', _, _, _, h4⟩ := h.minStep
  refine ⟨h.mms_nn hm, fun hh => ?_⟩
  rcases (h4 hm).2.2 with ⟨_, _, h5⟩ | ⟨_, h5⟩
  · exact h5
  · rw [hh] at h5; cases h5
theorem Ok.gms {S : CS} (h : Ok S) : 0 ≤ gms S ∧ (S.majStep.1.2 = true → gms S.majStep.2 < gms S) ∧ (S.majStep.1.2 = false → S.majStep.2.ph = 0) := by
  obtain ⟨m, R, G, h⟩ := h
  obtain ⟨m', R', _, _, h3, h4⟩ := h.majStep
  have k := h.inv.mks
  refine ⟨?_, fun hh => ?_, fun hh => ?_⟩
  · unfold Wh.gms
    have := msM_nn (S := S) h.inv.geo.cf
    have := k.lk
    split
    · exact Int.le_refl _
    · split
      · omega
      · split <;> omega
  · by_cases h0 : S.ph = 0
    · rw [h3 h0] at hh; cases hh
    · rcases (h4 h0).2.2 with ⟨_, h5⟩ | ⟨h5, _⟩
      · exact h5
      · rw [hh] at h5; cases h5
  · by_cases h0 : S.ph = 0
    · rw [h3 h0]; exact h0
    · rcases (h4 h0).2.2 with ⟨h5, _⟩ | ⟨_, h5⟩
      · rw [hh] at h5; cases h5
      · exact h5
theorem Ok.itMin {S : CS} (h : Ok S) (k : Nat) : Ok (itMin k S) := itMin_inv (P := Ok) (fun S h => h.minStep.1) k S h
theorem Ok.itMaj {S : CS} (h : Ok S) (k : Nat) : Ok (itMaj k S) := itMaj_inv (P := Ok) (fun S h => h.majStep.1) k S h
section
variable {W w : World} {oo : Nat → Prop} {k : CK} {S : CS} {l L : List Pr} {F : FuncId} {args : Array Value} {hb kc : Nat} {c : CF} {G : Gr.GS} {u : Int}
set_option maxHeartbeats 2000000 in
theorem small_in (hO : Ok S) (h : SepO W oo w (cparts k S ++ l)) : Calls Tryz.prog 50 #[pt k.c] w fun e w' => ∃ (n : Int) (i : Nat) (A : Option Addr) (m : Nat), e = .returned (.int .i64 n) ∧ (itMin i S).mv = false ∧ SepO W oo w' (cparts (k.rw A m) (itMin i S) ++ l) := by
  have H := Lib.hid h
  have HO := Lib.hid hO
  have hbl := (c_at h).2.2.1
  clear h hO
  go_enter Tryz.func50, Tryz.ntmps50
  go_wp2_with fail
  go_loopg [3] ((mms S).toNat + 2) (fun gk s3 wr => ∃ (n : Int) (i : Nat) (A : Option Addr) (m : Nat), s3 = .int .i64 n ∧ ((itMin i S).mv = true → mms (itMin i S) + 2 ≤ gk) ∧ SepO W oo wr (cparts (k.rw A m) (itMin i S) ++ l))
  case atStart => exact ⟨0, 0, k.A, k.n, rfl, fun _ => by show mms S + 2 ≤ _; omega, H.out⟩
  case round =>
    clear H
    obtain ⟨n, i, A, m, rfl, hg, h⟩ := hrel
    have HG := Lib.hid hg
    have c21 : wr.cell? ⟨k.c, 21, none⟩ = some (.bool (itMin i S).mv) := (c_at h).2.1.2.2.1
    have cbl : k.c < wr.heap.size := (c_at h).2.2.1
    have oi := HO.out.itMin i
    clear hg
    cases hm : (itMin i S).mv
    · rw [hm] at c21
      have HM := Lib.hid hm
      have H1 := Lib.hid h
      clear h hm oi
      go_wp2_with fail
      go_ret
      exact ⟨n, i, A, m, rfl, HM.out, H1.out⟩
    · rw [hm] at c21
      have ms := oi.mms hm
      have hst := Step_in (k := k.rw A m) (l := l) oi.nb h
      have es : (itMin i S).minStep.2 = itMin (i + 1) S := (itMin_succ i S).symm
      rw [es] at hst ms
      generalize (itMin i S).minStep.1 = T at hst
      have HST := Lib.hid hst
      have g2 : gk ≥ 1 := by have := HG.out hm; omega
      have HM : Hid ((itMin (i + 1) S).mv = true → mms (itMin (i + 1) S) + 2 ≤ ((gk - 1 : Nat) : Int)) := Lib.hid (fun hh => by have := ms.2 hh; have := HG.out hm; omega)
      clear h hm oi hst es ms
      go_wp2_with fail
      refine HST.out.mono ?_
      rintro e w2 ⟨rfl, A2, m2, h2⟩
      have H2 := Lib.hid h2
      clear h2 HST
      go_wp2_with fail
      go_roundg (gk - 1)
      case measure => omega
      case rel => exact ⟨_, i + 1, A2, m2, rfl, HM.out, H2.out⟩
set_option maxHeartbeats 2000000 in
theorem great_in (hO : Ok S) (h : SepO W oo w (cparts k S ++ l)) : Calls Tryz.prog 48 #[pt k.c] w fun e w' => ∃ (n : Int) (i : Nat), e = .returned (.int .i64 n) ∧ (itMaj i S).ph = 0 ∧ SepO W oo w' (cparts k (itMaj i S) ++ l) := by
  have gs := hO.gms
  have hst := majStep_in hO h
  have H := Lib.hid h
  have HO := Lib.hid hO
  have hbl := (c_at h).2.2.1
  obtain ⟨⟨T, more⟩, hT⟩ : ∃ T, S.majStep.1 = T := ⟨_, rfl⟩
  rw [hT] at hst gs
  have HST := Lib.hid hst
  have HGS := Lib.hid gs
  clear h hO hst gs hT
  go_enter Tryz.func48, Tryz.ntmps48
  go_wp2_with fail
  refine HST.out.mono ?_
  rintro e w1 ⟨rfl, h1⟩
  have H1 := Lib.hid h1
  clear h1 H HST
  go_wp2_with fail
  go_loopg [3, 5] ((gms S).toNat + 2) (fun gk s3 s5 wr => ∃ (n : Int) (i : Nat) (mr : Bool), s3 = .int .i64 n ∧ s5 = .bool mr ∧ (mr = true → gms (itMaj i S) + 2 ≤ gk) ∧ (mr = false → (itMaj i S).ph = 0) ∧ SepO W oo wr (cparts k (itMaj i S) ++ l))
  case atStart => exact ⟨0, 1, more, rfl, rfl, fun hh => by have := HGS.out.2.1 hh; have := HGS.out.1; show gms S.majStep.2 + 2 ≤ _; omega, fun hh => HGS.out.2.2 hh, H1.out⟩
  case round =>
    clear H1 HGS
    obtain ⟨n, i, mr, rfl, rfl, hg, hp, h⟩ := hrel
    cases mr
    · have HP := Lib.hid (hp rfl)
      have H1 := Lib.hid h
      clear h hg hp
      go_wp2_with fail
      go_ret
      exact ⟨n, i, rfl, HP.out, H1.out⟩
    · have hg := hg rfl
      have oi := HO.out.itMaj i
      have gs := oi.gms
      have hst := majStep_in (k := k) (l := l) oi h
      have es : (itMaj i S).majStep.2 = itMaj (i + 1) S := (itMaj_succ i S).symm
      rw [es] at hst gs
      obtain ⟨⟨T2, mr2⟩, hT⟩ : ∃ T, (itMaj i S).majStep.1 = T := ⟨_, rfl⟩
      rw [hT] at hst gs
      have HST := Lib.hid hst
      have g2 : gk ≥ 1 := by omega
      have HM : Hid ((mr2 = true → gms (itMaj (i + 1) S) + 2 ≤ ((gk - 1 : Nat) : Int)) ∧ (mr2 = false → (itMaj (i + 1) S).ph = 0)) := Lib.hid ⟨fun hh => by have := gs.2.1 hh; omega, gs.2.2⟩
      have cbl : k.c < wr.heap.size := (c_at h).2.2.1
      clear h hg hp oi hst es gs hT
      go_wp2_with fail
      refine HST.out.mono ?_
      rintro e w2 ⟨rfl, h2⟩
      have H2 := Lib.hid h2
      clear h2 HST
      go_wp2_with fail
      go_roundg (gk - 1)
      case measure => omega
      case rel => exact ⟨_, i + 1, mr2, rfl, rfl, HM.out.1, HM.out.2, H2.out⟩
theorem Finish_in (hO : Ok S) (h : SepO W oo w (cparts k S ++ l)) : Calls Tryz.prog 46 #[pt k.c] w fun e w' => ∃ (n : Int) (S' : CS) (A : Option Addr) (m : Nat), e = .returned (.int .i64 n) ∧ FinR S S' ∧ Ok S' ∧ SepO W oo w' (cparts (k.rw A m) S' ++ l) := by
  have H := Lib.hid h
  have HO := Lib.hid hO
  clear h hO
  go_enter Tryz.func46, Tryz.ntmps46
  go_wp2_with fail
  refine (small_in HO.out H.out).mono ?_
  rintro e w1 ⟨n1, i, A, m, rfl, m1, h1⟩
  have H1 := Lib.hid h1
  have HM := Lib.hid m1
  clear h1 H m1
  go_wp2_with fail
  refine (great_in (k := k.rw A m) (HO.out.itMin i) H1.out).mono ?_
  rintro e w2 ⟨n2, j, rfl, p2, h2⟩
  have H2 := Lib.hid h2
  have HP := Lib.hid p2
  clear h2 H1 p2
  go_wp2_with fail
  go_ret
  exact ⟨_, _, A, m, rfl, ⟨i, j, HM.out, HP.out, rfl⟩, (HO.out.itMin i).itMaj j, H2.out⟩
theorem Full_in (hO : Ok S) (h : SepO W oo w (cparts k S ++ l)) : Calls Tryz.prog 27 #[pt k.c] w fun e w' => ∃ (n : Int) (S' : CS) (A : Option Addr) (m : Nat), e = .returned (.int .i64 n) ∧ FullR S S' ∧ SepO W oo w' (cparts (k.rw A m) S' ++ l) := by
  have H := Lib.hid h
  have HO := Lib.hid hO
  clear h hO
  go_enter Tryz.func27, Tryz.ntmps27
  go_wp2_with fail
  refine (Finish_in HO.out H.out).mono ?_
  rintro e w1 ⟨n1, T, A1, m1, rfl, f1, o1, h1⟩
  have H1 := Lib.hid h1
  have HF := Lib.hid f1
  have HO1 := Lib.hid o1
  clear h1 H f1 o1 HO
  go_wp2_with fail
  refine (majStart_in (k := k.rw A1 m1) HO1.out H1.out).mono ?_
  rintro e w2 ⟨rfl, h2⟩
  have H2 := Lib.hid h2
  clear h2 H1
  go_wp2_with fail
  refine (great_in (k := k.rw A1 m1) HO1.out.majStart.1 H2.out).mono ?_
  rintro e w3 ⟨n3, i, rfl, p3, h3⟩
  have H3 := Lib.hid h3
  have HP := Lib.hid p3
  clear h3 H2 p3
  go_wp2_with fail
  refine (Start_in (k := k.rw A1 m1) (HO1.out.majStart.1.itMaj i) H3.out).mono ?_
  rintro e w4 ⟨rfl, A4, m4, h4⟩
  have H4 := Lib.hid h4
  clear h4 H3
  go_wp2_with fail
  refine (small_in (k := k.rw A4 m4) (HO1.out.majStart.1.itMaj i).minStart.1 H4.out).mono ?_
  rintro e w5 ⟨n5, j, A5, m5, rfl, mm5, h5⟩
  have H5 := Lib.hid h5
  have HM := Lib.hid mm5
  clear h5 H4 mm5
  go_wp2_with fail
  go_ret
  exact ⟨_, _, A5, m5, rfl, ⟨T, i, j, HF.out, HP.out, HM.out, rfl⟩, H5.out⟩
end
end Go.Proofs.YtihmkkjmnbehbaaGreat.Wh
/- What a heap has done: the walks. No condition. -/
set_option linter.unusedVariables false
set_option linter.unusedSimpArgs false
namespace Go.Proofs.YtihmkkjmnbehbaaGreat.Wh
open Go.RowKit Go.Proofs.YtihmkkjmnbehbaaGreat.W Go.Proofs.YtihmkkjmnbehbaaGreat.Sm
section
variable {W w : World} {oo : Nat → Prop} {k : CK} {S : CS} {l L : List Pr} {F : FuncId} {args : Array Value} {hb kc : Nat} {c : CF} {G : Gr.GS} {u : Int}
theorem oUsed_in (h : SepO W oo w (cparts k S ++ l)) : Calls Tryz.prog 92 #[pt k.o] w fun e w' => e = .returned (.int .i64 (Ma.usL S.o.f S.o.w S.o.l S.o.l 0)) ∧ SepO W oo w' (cparts k S ++ l) := Ma.Used_sep h 3 rfl
abbrev st8 (z : Nat) (a0 a1 a2 a3 a4 a5 a6 a7 : Int) : Pr := blkP z 55 #[i6 a0, i6 a1, i6 a2, i6 a3, i6 a4, i6 a5, i6 a6, i6 a7]
theorem st8_at {i z : Nat} {a0 a1 a2 a3 a4 a5 a6 a7 : Int} (h : SepO W oo w L) (hi : L[i]? = some (st8 z a0 a1 a2 a3 a4 a5 a6 a7)) : w.cell? ⟨z, 0, none⟩ = some (i6 a0) ∧ w.cell? ⟨z, 1, none⟩ = some (i6 a1) ∧ w.cell? ⟨z, 2, none⟩ = some (i6 a2) ∧ w.cell? ⟨z, 3, none⟩ = some (i6 a3) ∧ w.cell? ⟨z, 4, none⟩ = some (i6 a4) ∧ w.cell? ⟨z, 5, none⟩ = some (i6 a5) ∧ w.cell? ⟨z, 6, none⟩ = some (i6 a6) ∧ w.cell? ⟨z, 7, none⟩ = some (i6 a7) ∧ (∀ j, w.frozen? ⟨z, j, none⟩ = false) ∧ z < w.heap.size := by
  have b := h.blk i hi
  exact ⟨b.cell 0, b.cell 1, b.cell 2, b.cell 3, b.cell 4, b.cell 5, b.cell 6, b.cell 7, b.frozen, b.lt⟩
theorem st8_two {M : List Pr} {z : Nat} {a0 a1 a2 a3 a4 a5 a6 a7 : Int} (x y : Int) (h : SepO W oo w (cparts k S ++ (M ++ [st8 z a0 a1 a2 a3 a4 a5 a6 a7]))) : SepO W oo ((w.setCell ⟨z, 5, none⟩ (i6 x)).setCell ⟨z, 6, none⟩ (i6 y)) (cparts k S ++ (M ++ [st8 z a0 a1 a2 a3 a4 x y a7])) := by
  have := last_put (last_put h 5 (i6 x)) 6 (i6 y)
  simpa using this
theorem st8_one {M : List Pr} {z : Nat} {a0 a1 a2 a3 a4 a5 a6 a7 : Int} (x : Int) (h : SepO W oo w (cparts k S ++ (M ++ [st8 z a0 a1 a2 a3 a4 a5 a6 a7]))) : SepO W oo (w.setCell ⟨z, 7, none⟩ (i6 x)) (cparts k S ++ (M ++ [st8 z a0 a1 a2 a3 a4 a5 a6 x])) := by
  have := last_put h 7 (i6 x)
  simpa using this
theorem st8_five {M : List Pr} {z : Nat} {a0 a1 a2 a3 a4 a5 a6 a7 : Int} (x : Int) (h : SepO W oo w (cparts k S ++ (M ++ [st8 z a0 a1 a2 a3 a4 a5 a6 a7]))) : SepO W oo (w.setCell ⟨z, 5, none⟩ (i6 x)) (cparts k S ++ (M ++ [st8 z a0 a1 a2 a3 a4 x a6 a7])) := by
  have := last_put h 5 (i6 x)
  simpa using this
theorem st8_put {M : List Pr} {z : Nat} {a0 a1 a2 a3 a4 a5 a6 a7 : Int} (b0 b1 b2 b3 b4 b5 b6 b7 : Int) (h : SepO W oo w (cparts k S ++ (M ++ [st8 z a0 a1 a2 a3 a4 a5 a6 a7]))) : SepO W oo ((((((((w.setCell ⟨z, 0, none⟩ (i6 b0)).setCell ⟨z, 1, none⟩ (i6 b1)).setCell ⟨z, 2, none⟩ (i6 b2)).setCell ⟨z, 3, none⟩ (i6 b3)).setCell ⟨z, 4, none⟩ (i6 b4)).setCell ⟨z, 5, none⟩ (i6 b5)).setCell ⟨z, 6, none⟩ (i6 b6)).setCell ⟨z, 7, none⟩ (i6 b7)) (cparts k S ++ (M ++ [st8 z b0 b1 b2 b3 b4 b5 b6 b7])) := by
  have := last_put (last_put (last_put (last_put (last_put (last_put (last_put (last_put h 0 (i6 b0)) 1 (i6 b1)) 2 (i6 b2)) 3 (i6 b3)) 4 (i6 b4)) 5 (i6 b5)) 6 (i6 b6)) 7 (i6 b7)
  simpa using this
theorem dn_at (h : SepO W oo w (cparts k S ++ l)) : w.cell? ⟨k.c, 26, none⟩ = some (i6 S.d.al) ∧ w.cell? ⟨k.c, 27, none⟩ = some (i6 S.d.wo) ∧ w.cell? ⟨k.c, 28, none⟩ = some (i6 S.d.pr) ∧ w.cell? ⟨k.c, 29, none⟩ = some (i6 S.d.mi) ∧ w.cell? ⟨k.c, 30, none⟩ = some (i6 S.d.ma) ∧ w.cell? ⟨k.c, 31, none⟩ = some (i6 S.d.yo) ∧ w.cell? ⟨k.c, 32, none⟩ = some (i6 S.d.ol) ∧ w.cell? ⟨k.c, 33, none⟩ = some (i6 S.d.fr) := by
  have hb := c_blk h
  have e : ∀ j, w.cell? ⟨k.c, j, none⟩ = (ccells k S)[j]? := hb.cell
  exact ⟨e 26, e 27, e 28, e 29, e 30, e 31, e 32, e 33⟩
set_option maxRecDepth 20000 in
set_option maxHeartbeats 4000000 in
theorem Stats_in (h : SepO W oo w (cparts k S ++ l)) : Calls Tryz.prog 51 #[pt k.c] w fun e w' => ∃ f : Int, e = .returned (.agg #[i6 S.d.al, i6 S.d.wo, i6 S.d.pr, i6 S.d.mi, i6 S.d.ma, i6 (S.y.used + S.y.left), i6 (Ma.usL S.o.f S.o.w S.o.l S.o.l 0), i6 f]) ∧ SepO W oo w' (cparts k S ++ l) := by
  have hy := y_ok h
  have hyb : -1 ≤ S.y.used + S.y.left ∧ S.y.used + S.y.left ≤ 4194304 := by
    unfold Bp.Sp.ok at hy
    unfold Bp.Sp.used Bp.Sp.left
    split <;> omega
  have hyl : wrap64 (S.y.used + S.y.left) = S.y.used + S.y.left := by unfold wrap64; omega
  have hyl2 : IntKind.i64.wrap (S.y.used + S.y.left) = S.y.used + S.y.left := IntWalk.i64_in _ (by omega)
  clear hyb
  obtain ⟨d26, d27, d28, d29, d30, d31, d32, d33⟩ := dn_at h
  have hbl := (c_at h).2.2.1
  have hz := c_add (c_add h 55 #[i6 0, i6 0, i6 0, i6 0, i6 0, i6 0, i6 0, i6 0]) 55 #[i6 S.d.al, i6 S.d.wo, i6 S.d.pr, i6 S.d.mi, i6 S.d.ma, i6 S.d.yo, i6 S.d.ol, i6 S.d.fr]
  obtain ⟨z, hzz⟩ : ∃ z, w.heap.size = z := ⟨_, rfl⟩
  have hz1 : (w.alloc (.cells #[i6 0, i6 0, i6 0, i6 0, i6 0, i6 0, i6 0, i6 0] 55)).heap.size = z + 1 := by rw [← hzz]; simp
  rw [hz1, hzz] at hz
  have hbz : k.c < z := by omega
  obtain ⟨yu, hyu⟩ : ∃ x, S.y.used = x := ⟨_, rfl⟩
  obtain ⟨yl, hyl3⟩ : ∃ x, S.y.left = x := ⟨_, rfl⟩
  obtain ⟨ou, hou⟩ : ∃ x, Ma.usL S.o.f S.o.w S.o.l S.o.l 0 = x := ⟨_, rfl⟩
  have hc1 : ∀ M w', SepO W oo w' (cparts k S ++ M) → Calls Tryz.prog 90 #[pt k.y] w' fun e w'' => e = .returned (.int .i64 yu) ∧ SepO W oo w'' (cparts k S ++ M) := fun M w' h' => by rw [← hyu]; exact yUsed_in h'
  have hc2 : ∀ M w', SepO W oo w' (cparts k S ++ M) → Calls Tryz.prog 91 #[pt k.y] w' fun e w'' => e = .returned (.int .i64 yl) ∧ SepO W oo w'' (cparts k S ++ M) := fun M w' h' => by rw [← hyl3]; exact yLeft_in h'
  have hc3 : ∀ M w', SepO W oo w' (cparts k S ++ M) → Calls Tryz.prog 92 #[pt k.o] w' fun e w'' => e = .returned (.int .i64 ou) ∧ SepO W oo w'' (cparts k S ++ M) := fun M w' h' => by rw [← hou]; exact oUsed_in h'
  rw [hyu, hyl3] at hyl hyl2
  rw [hyu, hyl3, hou]
  obtain ⟨⟨_, c14, c15, _⟩, _⟩ := c_at hz
  have HC1 := Lib.hid (hc1 ((l ++ [st8 z 0 0 0 0 0 0 0 0]) ++ [st8 (z + 1) S.d.al S.d.wo S.d.pr S.d.mi S.d.ma S.d.yo S.d.ol S.d.fr]))
  have HC2 := Lib.hid (hc2 ((l ++ [st8 z 0 0 0 0 0 0 0 0]) ++ [st8 (z + 1) S.d.al S.d.wo S.d.pr S.d.mi S.d.ma S.d.yo S.d.ol S.d.fr]))
  have HC3 := Lib.hid (hc3 ((l ++ [st8 z 0 0 0 0 0 0 0 0]) ++ [st8 (z + 1) S.d.al S.d.wo S.d.pr S.d.mi S.d.ma S.d.yo S.d.ol S.d.fr]))
  have HZ := Lib.hid hz
  have nb1 : ¬ k.c = z + 1 := by omega
  have nc1 : ¬ z + 1 = k.c := by omega
  clear h hz hy hz1 hc1 hc2 hc3 hyu hyl3 hou
  go_enter Tryz.func51, Tryz.ntmps51
  go_wp2_with fail
  go_region_held3 (fun w' => w'.cell? ⟨k.c, 14, none⟩ = some (pt k.y) ∧ w'.cell? ⟨k.c, 15, none⟩ = some (pt k.o)) (first | exact ⟨c14, c15⟩ | exact ⟨f14, f15⟩ | exact ⟨p14, p15⟩ | exact ⟨t14, t15⟩ | exact g1 | exact g9 | go_keep) ((first | (go_at_call 90; (with_reducible refine (HC1.out _ ?hx).mono ?_); (case hx => first | exact HZ.out | exact HZ.out.drew | exact HZ.out.drewN _); rintro e w4 ⟨rfl, h4⟩; obtain ⟨⟨_, f14, f15, _⟩, _⟩ := c_at h4) | (go_at_call 91; (with_reducible refine (HC2.out _ ?hx).mono ?_); (case hx => first | exact h4 | exact h4.drew | exact h4.drewN _); rintro e w5 ⟨rfl, h5⟩; obtain ⟨⟨_, p14, p15, _⟩, _⟩ := c_at h5) | (go_at_call 92; (with_reducible refine (HC3.out _ ?hx).mono ?_); (case hx => first | exact h5 | exact h5.drew | exact h5.drewN _); rintro e w6 ⟨rfl, h6⟩; obtain ⟨⟨_, t14, t15, _⟩, _⟩ := c_at h6; obtain ⟨s0, s1, s2, s3, s4, s5, s6, s7, sf, sl⟩ := st8_at h6 c_last; have g1 : _ ∧ _ := ⟨(c_at (st8_five (yu + yl) h6)).1.2.1, (c_at (st8_five (yu + yl) h6)).1.2.2.1⟩; have g9 : _ ∧ _ := ⟨(c_at (st8_two (yu + yl) ou h6)).1.2.1, (c_at (st8_two (yu + yl) ou h6)).1.2.2.1⟩)))
  have h7 := st8_two (yu + yl) ou h6
  obtain ⟨w7, hw7⟩ : ∃ w7, ((w6.setCell ⟨z + 1, 5, none⟩ (i6 (yu + yl))).setCell ⟨z + 1, 6, none⟩ (i6 ou)) = w7 := ⟨_, rfl⟩
  rw [hw7] at h7 ⊢
  obtain ⟨s0, s1, s2, s3, s4, s5, s6, s7, sf, sl⟩ := st8_at h7 c_last
  obtain ⟨-, -, g2, g3, -⟩ := c_conf h7
  have cbl := (c_at h7).2.2.1
  have H7 := Lib.hid h7
  clear h7 h6 h5 h4 f14 f15 p14 p15 t14 t15 g1 hw7 HC1 HC2 HC3 HZ c14 c15 d26 d27 d28 d29 d30 d31 d32 d33 hbl
  go_wp2_with fail
  go_region
  obtain ⟨fr, hfr⟩ : ∃ x, wrap64 (wrap64 (S.c.p * S.c.w) - ou) = x := ⟨_, rfl⟩
  rw [hfr]
  have h8 := (st8_one fr H7.out).drew
  obtain ⟨w8, hw8⟩ : ∃ w8, (w7.setCell ⟨z + 1, 7, none⟩ (i6 fr)).drew = w8 := ⟨_, rfl⟩
  rw [hw8] at h8 ⊢
  obtain ⟨s0, s1, s2, s3, s4, s5, s6, s7, sf, sl⟩ := st8_at h8 c_last
  obtain ⟨t0, t1, t2, t3, t4, t5, t6, t7, tf, tl⟩ := st8_at (c_drop h8) c_last
  have h9 := st8_put S.d.al S.d.wo S.d.pr S.d.mi S.d.ma (yu + yl) ou fr (c_drop h8)
  obtain ⟨w9, hw9⟩ : ∃ w9, ((((((((w8.setCell ⟨z, 0, none⟩ (i6 S.d.al)).setCell ⟨z, 1, none⟩ (i6 S.d.wo)).setCell ⟨z, 2, none⟩ (i6 S.d.pr)).setCell ⟨z, 3, none⟩ (i6 S.d.mi)).setCell ⟨z, 4, none⟩ (i6 S.d.ma)).setCell ⟨z, 5, none⟩ (i6 (yu + yl))).setCell ⟨z, 6, none⟩ (i6 ou)).setCell ⟨z, 7, none⟩ (i6 fr)) = w9 := ⟨_, rfl⟩
  rw [hw9] at h9
  have H9 := Lib.hid h9
  have HW9 := Lib.hid hw9
  clear h8 h9 H7 hfr hw8 hw9 g2 g3 cbl
  go_wp2_with fail
  rw [HW9.out]
  obtain ⟨e0, e1, e2, e3, e4, e5, e6, e7, -⟩ := st8_at H9.out c_last
  refine bodyPost_ret (v := .agg #[i6 S.d.al, i6 S.d.wo, i6 S.d.pr, i6 S.d.mi, i6 S.d.ma, i6 (yu + yl), i6 ou, i6 fr]) (by simp [results, Tryz.results51, go_sem, e0, e1, e2, e3, e4, e5, e6, e7]) rfl ⟨fr, rfl, c_drop H9.out⟩
/-- Over one part: full work, and what was done. -/
theorem Full_sep (hO : Ok S) (h : SepO W oo w L) (i : Nat) (hi : L[i]? = some (Hpp hb kc S)) : Calls Tryz.prog 27 #[pt kc] w fun e w' => ∃ (n : Int) (S' : CS), e = .returned (.int .i64 n) ∧ FullR S S' ∧ SepO W oo w' (L.set i (Hpp hb kc S')) := by
  obtain ⟨o, ⟨k, rfl, hsep⟩, _, hup⟩ := h.open_ i hi
  refine (Full_in (k := k) hO (SepO.enter hsep)).mono ?_
  rintro e w' ⟨n, S', A, m, rfl, f, h'⟩
  exact ⟨n, S', rfl, f, hup w' (Hpp hb k.c S') ⟨k.rw A m, rfl, h'.leave⟩ h'.keep0⟩
theorem cStats_sep (h : SepO W oo w L) (i : Nat) (hi : L[i]? = some (Hpp hb kc S)) : Calls Tryz.prog 51 #[pt kc] w fun e w' => ∃ f : Int, e = .returned (.agg #[i6 S.d.al, i6 S.d.wo, i6 S.d.pr, i6 S.d.mi, i6 S.d.ma, i6 (S.y.used + S.y.left), i6 (Ma.usL S.o.f S.o.w S.o.l S.o.l 0), i6 f]) ∧ SepO W oo w' L := by
  obtain ⟨o, ⟨k, rfl, hsep⟩, _, hup⟩ := h.open_ i hi
  refine (Stats_in (k := k) (SepO.enter hsep)).mono ?_
  rintro e w' ⟨f, rfl, h'⟩
  refine ⟨f, rfl, ?_⟩
  have := hup w' (Hpp hb k.c S) ⟨k, rfl, h'.leave⟩ h'.keep0
  rwa [list_same hi] at this
set_option maxHeartbeats 2000000 in
theorem hStats_sep (h : SepO W oo w L) (i : Nat) (hi : L[i]? = some (Hpp hb kc S)) : Calls Tryz.prog 28 #[pt hb] w fun e w' => ∃ a0 a1 a2 a3 a4 f : Int, e = .returned (.agg #[i6 a0, i6 a1, i6 a2, i6 a3, i6 a4, i6 (S.y.used + S.y.left), i6 (Ma.usL S.o.f S.o.w S.o.l S.o.l 0), i6 f]) ∧ SepO W oo w' L := by
  have hz := h.new_blk 55 #[i6 0, i6 0, i6 0, i6 0, i6 0, i6 0, i6 0, i6 0]
  obtain ⟨z, hzz⟩ : ∃ z, w.heap.size = z := ⟨_, rfl⟩
  rw [hzz] at hz
  have hi2 : (L ++ [st8 z 0 0 0 0 0 0 0 0])[i]? = some (Hpp hb kc S) := at_left hi
  obtain ⟨yo, hyo⟩ : ∃ x, S.y.used + S.y.left = x := ⟨_, rfl⟩
  obtain ⟨ou, hou⟩ : ∃ x, Ma.usL S.o.f S.o.w S.o.l S.o.l 0 = x := ⟨_, rfl⟩
  obtain ⟨S0, hS0⟩ : ∃ x, S = x := ⟨_, rfl⟩
  have HZ := Lib.hid hz
  have HI := Lib.hid hi2
  have HE := Lib.hid (And.intro hyo hou)
  rw [hyo, hou]
  clear h hz hi hi2 hyo hou
  go_enter Tryz.func28, Tryz.ntmps28
  go_wp2_with fail
  refine (Core_sep HZ.out i HI.out).mono ?_
  rintro e w1 ⟨rfl, h1⟩
  have H1 := Lib.hid h1
  clear h1 HZ
  go_wp2_with fail
  refine (cStats_sep H1.out i HI.out).mono ?_
  rintro e w2 ⟨f, rfl, h2⟩
  rw [HE.out.1, HE.out.2]
  obtain ⟨t0, t1, t2, t3, t4, t5, t6, t7, tf, tl⟩ := st8_at h2 last_at
  obtain ⟨a0, a1, a2, a3, a4, ha⟩ : ∃ a0 a1 a2 a3 a4, (S.d.al, S.d.wo, S.d.pr, S.d.mi, S.d.ma) = (a0, a1, a2, a3, a4) := ⟨_, _, _, _, _, rfl⟩
  simp only [Prod.mk.injEq] at ha
  obtain ⟨h0, h1', h2', h3', h4'⟩ := ha
  rw [h0, h1', h2', h3', h4']
  have st : ∀ {w : World} {cs : Array Value} (h : SepO W oo w (L ++ [blkP z 55 cs])) (j : Nat) (v : Value), SepO W oo (w.setCell ⟨z, j, none⟩ v) (L ++ [blkP z 55 (cs.setIfInBounds j v)]) := fun h j v => h.set_mid j v
  have h9 : SepO W oo ((((((((w2.setCell ⟨z, 0, none⟩ (i6 a0)).setCell ⟨z, 1, none⟩ (i6 a1)).setCell ⟨z, 2, none⟩ (i6 a2)).setCell ⟨z, 3, none⟩ (i6 a3)).setCell ⟨z, 4, none⟩ (i6 a4)).setCell ⟨z, 5, none⟩ (i6 yo)).setCell ⟨z, 6, none⟩ (i6 ou)).setCell ⟨z, 7, none⟩ (i6 f)) (L ++ [st8 z a0 a1 a2 a3 a4 yo ou f]) := by
    have := st (st (st (st (st (st (st (st h2 0 (i6 a0)) 1 (i6 a1)) 2 (i6 a2)) 3 (i6 a3)) 4 (i6 a4)) 5 (i6 yo)) 6 (i6 ou)) 7 (i6 f)
    simpa using this
  obtain ⟨w9, hw9⟩ : ∃ w9, ((((((((w2.setCell ⟨z, 0, none⟩ (i6 a0)).setCell ⟨z, 1, none⟩ (i6 a1)).setCell ⟨z, 2, none⟩ (i6 a2)).setCell ⟨z, 3, none⟩ (i6 a3)).setCell ⟨z, 4, none⟩ (i6 a4)).setCell ⟨z, 5, none⟩ (i6 yo)).setCell ⟨z, 6, none⟩ (i6 ou)).setCell ⟨z, 7, none⟩ (i6 f)) = w9 := ⟨_, rfl⟩
  rw [hw9] at h9
  have H9 := Lib.hid h9
  have HW9 := Lib.hid hw9
  clear h2 h9 H1 hw9 h0 h1' h2' h3' h4' st
  go_wp2_with fail
  rw [HW9.out]
  obtain ⟨e0, e1, e2, e3, e4, e5, e6, e7, -⟩ := st8_at H9.out last_at
  refine bodyPost_ret (v := .agg #[i6 a0, i6 a1, i6 a2, i6 a3, i6 a4, i6 yo, i6 ou, i6 f]) (by simp [results, Tryz.results28, go_sem, e0, e1, e2, e3, e4, e5, e6, e7]) rfl ⟨a0, a1, a2, a3, a4, f, rfl, H9.out.first⟩
end
end Go.Proofs.YtihmkkjmnbehbaaGreat.Wh
/- A row of objects, as a graph; the walk that makes one. No condition. -/
set_option linter.unusedVariables false
set_option linter.unusedSimpArgs false
namespace Go.Proofs.YtihmkkjmnbehbaaGreat.Wh
open Go.RowKit Go.Proofs.YtihmkkjmnbehbaaGreat.W Go.Proofs.YtihmkkjmnbehbaaGreat.Sm
def chN (m : Nat) : List Gr.GN := (List.range m).map fun i => ⟨[i], [(i : Int)]⟩
theorem chN_len (m : Nat) : (chN m).length = m := by simp [chN]
theorem chN_succ (m : Nat) : chN (m + 1) = chN m ++ [⟨[m], [(m : Int)]⟩] := by unfold chN; rw [List.range_succ, List.map_append]; rfl
theorem chN_get {m i : Nat} (h : i < m) : (chN m)[i]? = some ⟨[i], [(i : Int)]⟩ := by
  unfold chN
  rw [List.getElem?_map, List.getElem?_range h]; rfl
/-- So many of a row, what the first two handles hold. -/
def ch (r lar m x y : Nat) : Gr.GS := ⟨chN m, x :: y :: List.replicate r 0, lar⟩
theorem ch_has (G : Gr.GS) (x : Int) {a b : Nat} {t : List Nat} (h : G.hs = a :: b :: t) (hx : x = 0 ∨ x = 1) : Gr.has G x = true := by
  rw [Gr.has_iff, h]; simp; omega
theorem ch_new (r lar m : Nat) (hl : 2 ≤ lar) : (Gr.gmake (ch r lar m m 0) 1 1 1).1 = 0 ∧
    (Gr.gdo (Gr.gdo (Gr.gdo (Gr.gdo (Gr.gmake (ch r lar m m 0) 1 1 1).2 ⟨3, 1, 0, 0, 0⟩).2 ⟨5, 1, 0, 0, (m : Int)⟩).2 ⟨7, 0, 1, 0, 0⟩).2 ⟨6, 1, 0, 0, 0⟩).2 = ch r lar (m + 1) (m + 1) 0 := by
  have ln := chN_len m
  have e1 : Gr.gmake (ch r lar m m 0) 1 1 1 = (0, ⟨chN m ++ [⟨[0], [0]⟩], m :: (m + 1) :: List.replicate r 0, lar⟩) := by
    unfold Gr.gmake
    rw [if_pos (ch_has _ 1 rfl (.inr rfl)), if_pos (by unfold Gr.fits ch; simp; omega)]
    show ((0 : Int), (⟨chN m ++ [⟨[0], [0]⟩], m :: ((chN m).length + 1) :: List.replicate r 0, lar⟩ : Gr.GS)) = _
    rw [ln]
  rw [e1]
  refine ⟨rfl, ?_⟩
  have nd : ∀ (x : Gr.GN) (hs : List Nat), Gr.nod ⟨chN m ++ [x], hs, lar⟩ (m + 1) = x := fun x hs => by
    have := nod_new ⟨chN m, hs, lar⟩ x
    rw [show (⟨chN m, hs, lar⟩ : Gr.GS).nodes.length = m from ln] at this
    exact this
  have sn : ∀ (x y : Gr.GN) (hs : List Nat), Gr.setN ⟨chN m ++ [x], hs, lar⟩ (m + 1) y = chN m ++ [y] := fun x y hs => by
    unfold Gr.setN
    simp only [Nat.add_sub_cancel]
    rw [List.set_append_right _ _ (by omega), ln, Nat.sub_self]; rfl
  have e2 : Gr.gdo (⟨chN m ++ [⟨[0], [0]⟩], m :: (m + 1) :: List.replicate r 0, lar⟩ : Gr.GS) ⟨3, 1, 0, 0, 0⟩ = (Gr.err 0, ⟨chN m ++ [⟨[m], [0]⟩], m :: (m + 1) :: List.replicate r 0, lar⟩) := by
    show Gr.ans (Gr.gset _ 1 0 0) = _
    unfold Gr.gset
    have hh : Gr.held (⟨chN m ++ [⟨[0], [0]⟩], m :: (m + 1) :: List.replicate r 0, lar⟩ : Gr.GS) 1 = m + 1 := rfl
    have hw : Gr.wrong (⟨chN m ++ [⟨[0], [0]⟩], m :: (m + 1) :: List.replicate r 0, lar⟩ : Gr.GS) 1 = 0 := by
      unfold Gr.wrong; rw [if_pos (ch_has _ 1 rfl (.inr rfl)), hh, if_neg (by omega)]
    rw [if_pos hw, if_pos (ch_has _ 0 rfl (.inl rfl)), hh, nd, if_pos (by rfl), sn]; rfl
  dsimp only
  rw [e2]
  have e3 : Gr.gdo (⟨chN m ++ [⟨[m], [0]⟩], m :: (m + 1) :: List.replicate r 0, lar⟩ : Gr.GS) ⟨5, 1, 0, 0, (m : Int)⟩ = (Gr.err 0, ⟨chN m ++ [⟨[m], [(m : Int)]⟩], m :: (m + 1) :: List.replicate r 0, lar⟩) := by
    show Gr.ans (Gr.gwrite _ 1 0 m) = _
    unfold Gr.gwrite
    have hh : Gr.held (⟨chN m ++ [⟨[m], [0]⟩], m :: (m + 1) :: List.replicate r 0, lar⟩ : Gr.GS) 1 = m + 1 := rfl
    have hw : Gr.wrong (⟨chN m ++ [⟨[m], [0]⟩], m :: (m + 1) :: List.replicate r 0, lar⟩ : Gr.GS) 1 = 0 := by
      unfold Gr.wrong; rw [if_pos (ch_has _ 1 rfl (.inr rfl)), hh, if_neg (by omega)]
    rw [if_pos hw, hh, nd, if_pos (by rfl), sn]; rfl
  rw [e3]
  have e4 : Gr.gdo (⟨chN m ++ [⟨[m], [(m : Int)]⟩], m :: (m + 1) :: List.replicate r 0, lar⟩ : Gr.GS) ⟨7, 0, 1, 0, 0⟩ = (Gr.err 0, ⟨chN m ++ [⟨[m], [(m : Int)]⟩], (m + 1) :: (m + 1) :: List.replicate r 0, lar⟩) := by
    show Gr.ans (Gr.gcopy _ 0 1) = _
    unfold Gr.gcopy
    rw [if_pos (by rw [ch_has _ 1 rfl (.inr rfl), ch_has _ 0 rfl (.inl rfl)]; rfl)]; rfl
  rw [e4]
  have e5 : Gr.gdo (⟨chN m ++ [⟨[m], [(m : Int)]⟩], (m + 1) :: (m + 1) :: List.replicate r 0, lar⟩ : Gr.GS) ⟨6, 1, 0, 0, 0⟩ = (Gr.err 0, ⟨chN m ++ [⟨[m], [(m : Int)]⟩], (m + 1) :: 0 :: List.replicate r 0, lar⟩) := by
    show Gr.ans (Gr.gclear _ 1) = _
    unfold Gr.gclear
    rw [if_pos (ch_has _ 1 rfl (.inr rfl))]; rfl
  rw [e5]
  unfold ch
  rw [chN_succ]
theorem ch_read (r lar m i : Nat) (h : i < m) : Gr.gdo (ch r lar m (i + 1) 0) ⟨4, 0, 0, 0, 0⟩ = (⟨0, false, 0, (i : Int)⟩, ch r lar m (i + 1) 0) ∧ Gr.gdo (ch r lar m (i + 1) 0) ⟨2, 0, 0, 0, 0⟩ = (Gr.err 0, ch r lar m i 0) := by
  have hh : Gr.held (ch r lar m (i + 1) 0) 0 = i + 1 := rfl
  have hw : Gr.wrong (ch r lar m (i + 1) 0) 0 = 0 := by
    unfold Gr.wrong; rw [if_pos (ch_has _ 0 rfl (.inl rfl)), hh, if_neg (by omega)]
  have nd : Gr.nod (ch r lar m (i + 1) 0) (i + 1) = ⟨[i], [(i : Int)]⟩ := by
    unfold Gr.nod ch; simp only [Nat.add_sub_cancel]; rw [chN_get h]; rfl
  constructor
  · show (Gr.gread _ 0 0, _) = _
    unfold Gr.gread
    rw [if_pos hw, hh, nd, if_pos (by rfl)]; rfl
  · show Gr.ans (Gr.gget _ 0 0 0) = _
    unfold Gr.gget
    rw [if_pos hw, if_pos (ch_has _ 0 rfl (.inl rfl)), hh, nd, if_pos (by rfl)]; rfl
theorem ch_nil (r lar m : Nat) : Gr.gdo (ch r lar m 0 0) ⟨9, 0, 0, 0, 0⟩ = (⟨0, true, 0, 0⟩, ch r lar m 0 0) := by
  show (Gr.gnil _ 0, _) = _
  unfold Gr.gnil
  rw [if_pos (ch_has _ 0 rfl (.inl rfl))]; rfl
theorem ch_zero (r lar m : Nat) : ∀ x ∈ (ch r lar m 0 0).hs, x = 0 := by
  intro x hx
  unfold ch at hx
  simp at hx
  omega
/-- A heap in which nothing is left. -/
def Hvd (hb kc : Nat) : Pr := exP fun S : CS => andP (S.y.used + S.y.left = 0 ∧ Ma.usL S.o.f S.o.w S.o.l S.o.l 0 = 0) (Hpp hb kc S)
section
variable {W w : World} {oo : Nat → Prop} {l L : List Pr} {hb kc : Nat} {c : CF} {G : Gr.GS} {u : Int}
theorem Core_g (h : SepO W oo w L) (i : Nat) (hi : L[i]? = some (Hgg hb kc c G)) : Calls Tryz.prog 23 #[pt hb] w fun e w' => e = .returned (pt kc) ∧ SepO W oo w' L := by
  obtain ⟨S, hg, h1⟩ := hgg_open h hi
  refine (Core_sep h1 i (by rw [List.getElem?_set_self (List.getElem?_eq_some_iff.1 hi).1])).mono ?_
  rintro e w' ⟨rfl, h2⟩
  have := hgg_shut hi hg h2
  rw [list_same hi] at this
  exact ⟨rfl, this⟩
theorem Full_g (hG : ∀ x ∈ G.hs, x = 0) (h : SepO W oo w L) (i : Nat) (hi : L[i]? = some (Hgg hb kc c G)) : Calls Tryz.prog 27 #[pt kc] w fun e w' => ∃ n : Int, e = .returned (.int .i64 n) ∧ SepO W oo w' (L.set i (Hvd hb kc)) := by
  obtain ⟨S, hg, h1⟩ := hgg_open h hi
  have hl := (List.getElem?_eq_some_iff.1 hi).1
  refine (Full_sep hg.ok h1 i (by rw [List.getElem?_set_self hl])).mono ?_
  rintro e w' ⟨n, S', rfl, f, h2⟩
  refine ⟨n, rfl, ?_⟩
  obtain ⟨_, k1, k2⟩ := full_void hg hG f
  rw [List.set_set] at h2
  have := h2.weak (Q := Hvd hb kc) i (by rw [List.getElem?_set_self hl]) (fun w o hp => ⟨S', ⟨k1, k2⟩, hp⟩)
  rwa [List.set_set] at this
theorem Stats_g (h : SepO W oo w L) (i : Nat) (hi : L[i]? = some (Hvd hb kc)) : Calls Tryz.prog 28 #[pt hb] w fun e w' => ∃ a0 a1 a2 a3 a4 f : Int, e = .returned (.agg #[i6 a0, i6 a1, i6 a2, i6 a3, i6 a4, i6 0, i6 0, i6 f]) ∧ SepO W oo w' L := by
  obtain ⟨o, ⟨S, hg, hp⟩, _, hup⟩ := h.open_ i hi
  have h1 := hup w (Hpp hb kc S) ((Hpp hb kc S).mono hp (fun i h => .inl h)) (Keep.refl _ _)
  have hl := (List.getElem?_eq_some_iff.1 hi).1
  refine (hStats_sep h1 i (by rw [List.getElem?_set_self hl])).mono ?_
  rintro e w' ⟨a0, a1, a2, a3, a4, f, rfl, h2⟩
  rw [hg.1, hg.2]
  have := h2.weak (Q := Hvd hb kc) i (by rw [List.getElem?_set_self hl]) (fun w o hp => ⟨S, hg, hp⟩)
  rw [List.set_set, list_same hi] at this
  exact ⟨a0, a1, a2, a3, a4, f, rfl, this⟩
end
end Go.Proofs.YtihmkkjmnbehbaaGreat.Wh
/- Ring as a contract. Condition: what is taken in reads as lists. -/
set_option linter.unusedVariables false
set_option linter.unusedSimpArgs false
namespace Go.Proofs.YtihmkkjmnbehbaaGreat.Wh
open Go.RowKit Go.Proofs.YtihmkkjmnbehbaaGreat.W Go.Proofs.YtihmkkjmnbehbaaGreat.Sm
/-- A ring that is being made; one that is made, and what the first handle holds. -/
def rgR (m : Nat) : Gr.GS := ⟨chN m, [m, m, if m = 0 then 0 else 1, 0], 3⟩
def rgQ (m x : Nat) : Gr.GS := ⟨(chN m).set 0 ⟨[m], [0]⟩, [x, 0, 0, 0], 3⟩
theorem has4 (G : Gr.GS) (x : Int) (h : G.hs.length = 4) (hx : 0 ≤ x ∧ x < 4) : Gr.has G x = true := by rw [Gr.has_iff, h]; omega
theorem rg_new (m : Nat) : (Gr.gmake (rgR m) 1 1 1).1 = 0 ∧
    (m = 0 → (Gr.gdo (Gr.gdo (Gr.gdo (Gr.gmake (rgR m) 1 1 1).2 ⟨5, 1, 0, 0, (m : Int)⟩).2 ⟨7, 2, 1, 0, 0⟩).2 ⟨7, 0, 1, 0, 0⟩).2 = rgR (m + 1)) ∧
    (m ≠ 0 → (Gr.gdo (Gr.gdo (Gr.gdo (Gr.gmake (rgR m) 1 1 1).2 ⟨5, 1, 0, 0, (m : Int)⟩).2 ⟨3, 1, 0, 0, 0⟩).2 ⟨7, 0, 1, 0, 0⟩).2 = rgR (m + 1)) := by
  have ln := chN_len m
  obtain ⟨f, hf⟩ : ∃ f, (if m = 0 then 0 else 1) = f := ⟨_, rfl⟩
  have e1 : Gr.gmake (rgR m) 1 1 1 = (0, ⟨chN m ++ [⟨[0], [0]⟩], [m, m + 1, f, 0], 3⟩) := by
    unfold Gr.gmake
    rw [if_pos (has4 _ 1 rfl (by omega)), if_pos (by rfl)]
    show ((0 : Int), (⟨chN m ++ [⟨[0], [0]⟩], [m, (chN m).length + 1, if m = 0 then 0 else 1, 0], 3⟩ : Gr.GS)) = _
    rw [ln, hf]
  have nd : ∀ (x : Gr.GN) (hs : List Nat), Gr.nod ⟨chN m ++ [x], hs, 3⟩ (m + 1) = x := fun x hs => by
    have := nod_new ⟨chN m, hs, 3⟩ x
    rw [show (⟨chN m, hs, 3⟩ : Gr.GS).nodes.length = m from ln] at this
    exact this
  have sn : ∀ (x y : Gr.GN) (hs : List Nat), Gr.setN ⟨chN m ++ [x], hs, 3⟩ (m + 1) y = chN m ++ [y] := fun x y hs => by
    unfold Gr.setN
    simp only [Nat.add_sub_cancel]
    rw [List.set_append_right _ _ (by omega), ln, Nat.sub_self]; rfl
  have e3 : Gr.gdo (⟨chN m ++ [⟨[0], [0]⟩], [m, m + 1, f, 0], 3⟩ : Gr.GS) ⟨5, 1, 0, 0, (m : Int)⟩ = (Gr.err 0, ⟨chN m ++ [⟨[0], [(m : Int)]⟩], [m, m + 1, f, 0], 3⟩) := by
    show Gr.ans (Gr.gwrite _ 1 0 m) = _
    unfold Gr.gwrite
    have hh : Gr.held (⟨chN m ++ [⟨[0], [0]⟩], [m, m + 1, f, 0], 3⟩ : Gr.GS) 1 = m + 1 := rfl
    have hw : Gr.wrong (⟨chN m ++ [⟨[0], [0]⟩], [m, m + 1, f, 0], 3⟩ : Gr.GS) 1 = 0 := by
      unfold Gr.wrong; rw [if_pos (has4 _ 1 rfl (by omega)), hh, if_neg (by omega)]
    rw [if_pos hw, hh, nd, if_pos (by rfl), sn]; rfl
  rw [e1]
  refine ⟨rfl, fun h0 => ?_, fun h0 => ?_⟩
  · dsimp only
    rw [e3]
    subst h0
    rw [if_pos rfl] at hf
    subst hf
    rfl
  · dsimp only
    rw [e3]
    rw [if_neg h0] at hf
    subst hf
    have e4 : Gr.gdo (⟨chN m ++ [⟨[0], [(m : Int)]⟩], [m, m + 1, 1, 0], 3⟩ : Gr.GS) ⟨3, 1, 0, 0, 0⟩ = (Gr.err 0, ⟨chN m ++ [⟨[m], [(m : Int)]⟩], [m, m + 1, 1, 0], 3⟩) := by
      show Gr.ans (Gr.gset _ 1 0 0) = _
      unfold Gr.gset
      have hh : Gr.held (⟨chN m ++ [⟨[0], [(m : Int)]⟩], [m, m + 1, 1, 0], 3⟩ : Gr.GS) 1 = m + 1 := rfl
      have hw : Gr.wrong (⟨chN m ++ [⟨[0], [(m : Int)]⟩], [m, m + 1, 1, 0], 3⟩ : Gr.GS) 1 = 0 := by
        unfold Gr.wrong; rw [if_pos (has4 _ 1 rfl (by omega)), hh, if_neg (by omega)]
      rw [if_pos hw, if_pos (has4 _ 0 rfl (by omega)), hh, nd, if_pos (by rfl), sn]; rfl
    rw [e4]
    have e5 : Gr.gdo (⟨chN m ++ [⟨[m], [(m : Int)]⟩], [m, m + 1, 1, 0], 3⟩ : Gr.GS) ⟨7, 0, 1, 0, 0⟩ = (Gr.err 0, ⟨chN m ++ [⟨[m], [(m : Int)]⟩], [m + 1, m + 1, 1, 0], 3⟩) := by
      show Gr.ans (Gr.gcopy _ 0 1) = _
      unfold Gr.gcopy
      rw [if_pos (by rw [has4 _ 1 rfl (by omega), has4 _ 0 rfl (by omega)]; rfl)]; rfl
    rw [e5]
    unfold rgR
    rw [chN_succ, if_neg (by omega)]
theorem rg_close (m : Nat) (hm : m ≠ 0) : (Gr.gdo (Gr.gdo (Gr.gdo (rgR m) ⟨3, 2, 0, 0, 0⟩).2 ⟨6, 1, 0, 0, 0⟩).2 ⟨6, 2, 0, 0, 0⟩).2 = rgQ m m := by
  have e0 : rgR m = ⟨chN m, [m, m, 1, 0], 3⟩ := by unfold rgR; rw [if_neg hm]
  rw [e0]
  have nd : Gr.nod (⟨chN m, [m, m, 1, 0], 3⟩ : Gr.GS) 1 = ⟨[0], [0]⟩ := by
    unfold Gr.nod
    show ((chN m)[0]?).getD _ = _
    rw [chN_get (by omega)]; rfl
  have e1 : Gr.gdo (⟨chN m, [m, m, 1, 0], 3⟩ : Gr.GS) ⟨3, 2, 0, 0, 0⟩ = (Gr.err 0, ⟨(chN m).set 0 ⟨[m], [0]⟩, [m, m, 1, 0], 3⟩) := by
    show Gr.ans (Gr.gset _ 2 0 0) = _
    unfold Gr.gset
    have hh : Gr.held (⟨chN m, [m, m, 1, 0], 3⟩ : Gr.GS) 2 = 1 := rfl
    have hw : Gr.wrong (⟨chN m, [m, m, 1, 0], 3⟩ : Gr.GS) 2 = 0 := by
      unfold Gr.wrong; rw [if_pos (has4 _ 2 rfl (by omega)), hh, if_neg (by omega)]
    rw [if_pos hw, if_pos (has4 _ 0 rfl (by omega)), hh, nd, if_pos (by rfl)]; rfl
  rw [e1]
  have e2 : ∀ (N : List Gr.GN) (x y z : Nat), Gr.gdo (⟨N, [x, y, z, 0], 3⟩ : Gr.GS) ⟨6, 1, 0, 0, 0⟩ = (Gr.err 0, ⟨N, [x, 0, z, 0], 3⟩) := fun N x y z => by
    show Gr.ans (Gr.gclear _ 1) = _
    unfold Gr.gclear
    rw [if_pos (has4 _ 1 rfl (by omega))]; rfl
  have e3 : ∀ (N : List Gr.GN) (x y z : Nat), Gr.gdo (⟨N, [x, y, z, 0], 3⟩ : Gr.GS) ⟨6, 2, 0, 0, 0⟩ = (Gr.err 0, ⟨N, [x, y, 0, 0], 3⟩) := fun N x y z => by
    show Gr.ans (Gr.gclear _ 2) = _
    unfold Gr.gclear
    rw [if_pos (has4 _ 2 rfl (by omega))]; rfl
  dsimp only
  rw [e2, e3]
  rfl
theorem rg_read (m x : Nat) (h1 : 1 ≤ x) (h2 : x ≤ m) : Gr.gdo (rgQ m x) ⟨4, 0, 0, 0, 0⟩ = (⟨0, false, 0, ((x - 1 : Nat) : Int)⟩, rgQ m x) ∧ Gr.gdo (rgQ m x) ⟨2, 0, 0, 0, 0⟩ = (Gr.err 0, rgQ m (if x = 1 then m else x - 1)) := by
  have hh : Gr.held (rgQ m x) 0 = x := rfl
  have hw : Gr.wrong (rgQ m x) 0 = 0 := by
    unfold Gr.wrong; rw [if_pos (has4 _ 0 rfl (by omega)), hh, if_neg (by omega)]
  have nd : Gr.nod (rgQ m x) x = ⟨[if x = 1 then m else x - 1], [((x - 1 : Nat) : Int)]⟩ := by
    unfold Gr.nod rgQ
    simp only []
    by_cases e : x = 1
    · subst e
      rw [if_pos rfl, show (1 - 1 : Nat) = 0 from rfl, List.getElem?_set_self (by rw [chN_len]; omega)]; rfl
    · rw [if_neg e, List.getElem?_set_ne (by omega), chN_get (by omega)]; rfl
  constructor
  · show (Gr.gread _ 0 0, _) = _
    unfold Gr.gread
    rw [if_pos hw, hh, nd, if_pos (by rfl)]; rfl
  · show Gr.ans (Gr.gget _ 0 0 0) = _
    unfold Gr.gget
    rw [if_pos hw, if_pos (has4 _ 0 rfl (by omega)), hh, nd, if_pos (by rfl)]; rfl
theorem rg_clear (m x : Nat) : (Gr.gdo (rgQ m x) ⟨6, 0, 0, 0, 0⟩).2 = rgQ m 0 := by
  show (Gr.ans (Gr.gclear _ 0)).2 = _
  unfold Gr.gclear
  rw [if_pos (has4 _ 0 rfl (by omega))]; rfl
theorem rg_zero (m : Nat) : ∀ x ∈ (rgQ m 0).hs, x = 0 := by intro x hx; simp [rgQ] at hx; omega
set_option maxRecDepth 20000 in
set_option maxHeartbeats 8000000 in
theorem Ring_calls (a b d e : Int) (ha : U8 a) (hb0 : U8 b) (hd : U8 d) (he : U8 e) (q : Int) (hq : U8 q) (w : World) {v : Value} {idle : List Int} (hv : SL w (fun i => i < w.heap.size) .u8 v idle) (hu : ∀ x ∈ idle, U8 x) : Calls Tryz.prog 11 #[.int .u8 a, .int .u8 b, .int .u8 d, .int .u8 e, .int .u8 q, v] w fun e' w' => e' = .returned (.bool true) ∧ Below w.heap.size w w' := by
  have hm : CFmay ({ cfg a b d e with h := 4, l := 3, n := 70 } : CF) := by
    have hm0 := cfg_may ha hb0 hd he
    obtain ⟨k1, k2, k3⟩ := card_ok (a := a) (c := d) ha
    unfold U8 at ha hb0 hd he
    refine ⟨⟨?_, ?_, ?_, ?_, ?_, ?_, ?_, ?_, ?_, ?_, ?_, ?_, ?_, ?_, ?_, ?_, ?_, ?_, ?_, ?_, ?_, ?_, ?_⟩, ?_, ?_, ?_⟩ <;> simp only [cfg] <;> first | exact k1 | exact k2 | exact k3 | omega
  have hn0 : ∀ C : CF, ({ cfg a b d e with h := 4, l := 3, n := 70 } : CF) = C → C.h = 4 ∧ C.l = 3 := by
    rintro _ rfl
    unfold U8 at ha hb0 hd he
    (repeat' constructor) <;> (try simp only [cfg]) <;> omega
  have HM := Lib.hid hm
  have HF := Lib.hid hn0
  have HV := Lib.hid hv
  have HU := Lib.hid hu
  clear hu hv
  unfold U8 at hq
  obtain ⟨sz, hsz⟩ : ∃ sz : Nat, q % 6 + 1 = ((sz : Nat) : Int) := ⟨(q % 6 + 1).toNat, by omega⟩
  have hs1 : 1 ≤ sz := by omega
  have hs6 : sz ≤ 6 := by omega
  have hsz2 : wrap64 (q % 6 + 1) = ((sz : Nat) : Int) := by unfold wrap64; omega
  obtain ⟨hq0, hq1⟩ := hq
  clear hm hn0
  go_enter Tryz.func11, Tryz.ntmps11
  go_wp2_with fail
  refine (config_l (a := a) (b := b) (d := d) (e := e) ha hb0 hd he (Sep.nil w)).mono ?_
  rintro e1 w1 ⟨rfl, h1⟩
  have H1 := Lib.hid h1
  clear h1
  go_wp2_with fail
  refine (hNew_g (c := ({ cfg a b d e with h := 4, l := 3, n := 70 } : CF)) HM.out (H1.out.alloc _)).mono ?_
  rintro e2 w2 ⟨hb, kc, rfl, h2⟩
  obtain ⟨c, hc⟩ : ∃ c : CF, ({ cfg a b d e with h := 4, l := 3, n := 70 } : CF) = c := ⟨_, rfl⟩
  have hF := HF.out c hc
  have hm := HM.out
  rw [hc] at h2 hm
  replace h2 : SepO w (fun _ => False) w2 [Hst hb kc c (⟨[], [0, 0, 0, 0], 3⟩ : Gr.GS) 0] := by
    have e : (⟨[], [0, 0, 0, 0], 3⟩ : Gr.GS) = Gr.gnew c.h c.l := by rw [← hc]; rfl
    rw [e]; exact h2
  have H2 := Lib.hid h2
  have HOK := Lib.hid hm.ok
  clear h2 H1 HM HF hm
  go_wp2_with fail
  refine (wakes_l H2.out).mono ?_
  rintro e3 w3 ⟨rfl, h3⟩
  have H3 := Lib.hid h3
  clear h3 H2
  go_wp2_with fail
  obtain ⟨f3, f4⟩ := hF
  have fE := run_fE
  replace H3 := Lib.hid (hst_gg (i := 0) H3.out rfl)
  replace H3 : Hid (SepO w (fun _ => False) w3 [Hgg hb kc c (rgR 0)]) := H3
  clear hq0 hq1 hsz2 f3 f4
  (try rw [hsz])
  clear hsz
  go_loopg [17] sz (fun gk i wr => ∃ m : Nat, m + gk = sz ∧ i = .int .i64 m ∧ Sep w wr [Hgg hb kc c (rgR m)])
  case atStart => exact ⟨0, by omega, rfl, H3.out⟩
  case round =>
    clear H3
    obtain ⟨m, hj, rfl, h⟩ := hrel
    have HJ := Lib.hid hj
    have hm6 : m ≤ sz := by omega
    clear hj
    by_cases hlt : m < sz
    · have HJU : Hid (IntKind.u64.wrap (m : Int) = (m : Int)) := Lib.hid (u64_small (by omega))
      obtain ⟨he0, hend0, hend1⟩ := rg_new m
      have H20 := Lib.hid h
      clear h
      go_wp2_with fail
      refine (doM_g (c := c) (kc := kc) (G := rgR m) 1 1 1 0 (wf5 (by omega) (by omega) (by omega) (by omega) (by omega)) H20.out 0 rfl).mono ?_
      rintro e21 w21 (⟨rfl, h21⟩ | ⟨rfl, h21⟩)
      · have H21 := Lib.hid h21
        simp only [erA]
        clear h21 H20 he0 hend0 hend1 HJU
        go_wp2_with fail
        go_ret
        exact ⟨rfl, H21.out.below⟩
      · rw [he0]
        obtain ⟨G21, hG21⟩ : ∃ G', (Gr.gmake (rgR m) 1 1 1).2 = G' := ⟨_, rfl⟩
        rw [hG21] at h21 hend0 hend1
        replace h21 : SepO w (fun _ => False) w21 [Hgg hb kc c G21] := h21
        have H21 := Lib.hid h21
        simp only [erA]
        have hju := HJU.out
        clear h21 H20 hG21 he0 HJU
        go_wp2_with fail
        clear hju
        by_cases hm0 : m = 0
        · have hend := hend0 hm0
          have HEND := Lib.hid hend
          clear hend hend0 hend1
          subst hm0
          refine (do_g (c := c) (kc := kc) (G := G21) 5 1 0 0 ((0 : Nat) : Int) (wf5 (by omega) (by omega) (by omega) (by omega) (by omega)) (by decide) H21.out 0 rfl).mono ?_
          rintro e22 w22 ⟨rfl, h22⟩
          replace h22 : SepO w (fun _ => False) w22 [Hgg hb kc c (Gr.gdo G21 ⟨5, 1, 0, 0, ((0 : Nat) : Int)⟩).2] := h22
          generalize (toAn (Gr.gdo G21 ⟨5, 1, 0, 0, ((0 : Nat) : Int)⟩).1) = an0
          have hend := HEND.out
          obtain ⟨G22, hG22⟩ : ∃ GX, (Gr.gdo G21 ⟨5, 1, 0, 0, ((0 : Nat) : Int)⟩).2 = GX := ⟨_, rfl⟩
          rw [hG22] at h22 hend
          skip
          have H22 := Lib.hid h22
          clear HEND
          have HEND := Lib.hid hend
          clear h22 H21 hG22 hend
          go_wp2_with fail
          refine (do_g (c := c) (kc := kc) (G := G22) 7 2 1 0 0 (wf5 (by omega) (by omega) (by omega) (by omega) (by omega)) (by decide) H22.out 0 rfl).mono ?_
          rintro e23 w23 ⟨rfl, h23⟩
          replace h23 : SepO w (fun _ => False) w23 [Hgg hb kc c (Gr.gdo G22 ⟨7, 2, 1, 0, 0⟩).2] := h23
          generalize (toAn (Gr.gdo G22 ⟨7, 2, 1, 0, 0⟩).1) = an1
          have hend := HEND.out
          obtain ⟨G23, hG23⟩ : ∃ GX, (Gr.gdo G22 ⟨7, 2, 1, 0, 0⟩).2 = GX := ⟨_, rfl⟩
          rw [hG23] at h23 hend
          skip
          have H23 := Lib.hid h23
          clear HEND
          have HEND := Lib.hid hend
          clear h23 H22 hG23 hend
          go_wp2_with fail
          refine (do_g (c := c) (kc := kc) (G := G23) 7 0 1 0 0 (wf5 (by omega) (by omega) (by omega) (by omega) (by omega)) (by decide) H23.out 0 rfl).mono ?_
          rintro e24 w24 ⟨rfl, h24⟩
          replace h24 : SepO w (fun _ => False) w24 [Hgg hb kc c (Gr.gdo G23 ⟨7, 0, 1, 0, 0⟩).2] := h24
          generalize (toAn (Gr.gdo G23 ⟨7, 0, 1, 0, 0⟩).1) = an2
          have hend := HEND.out
          obtain ⟨G24, hG24⟩ : ∃ GX, (Gr.gdo G23 ⟨7, 0, 1, 0, 0⟩).2 = GX := ⟨_, rfl⟩
          rw [hG24] at h24 hend
          rw [hend] at h24
          have H24 := Lib.hid h24
          clear HEND
          have HEND := Lib.hid hend
          clear h24 H23 hG24 hend
          go_wp2_with fail
          go_roundg (gk - 1)
          case measure => have := HJ.out; omega
          case rel => exact ⟨0 + 1, by have := HJ.out; omega, by go_num, H24.out⟩
        · have hend := hend1 hm0
          have HEND := Lib.hid hend
          have hmz : ((m : Int) == 0) = false := by simp; omega
          clear hend hend0 hend1
          refine (do_g (c := c) (kc := kc) (G := G21) 5 1 0 0 (m : Int) (wf5 (by omega) (by omega) (by omega) (by omega) (by omega)) (by decide) H21.out 0 rfl).mono ?_
          rintro e22 w22 ⟨rfl, h22⟩
          replace h22 : SepO w (fun _ => False) w22 [Hgg hb kc c (Gr.gdo G21 ⟨5, 1, 0, 0, (m : Int)⟩).2] := h22
          generalize (toAn (Gr.gdo G21 ⟨5, 1, 0, 0, (m : Int)⟩).1) = an0
          have hend := HEND.out
          obtain ⟨G22, hG22⟩ : ∃ GX, (Gr.gdo G21 ⟨5, 1, 0, 0, (m : Int)⟩).2 = GX := ⟨_, rfl⟩
          rw [hG22] at h22 hend
          skip
          have H22 := Lib.hid h22
          clear HEND
          have HEND := Lib.hid hend
          clear h22 H21 hG22 hend
          go_wp2_with fail
          refine (do_g (c := c) (kc := kc) (G := G22) 3 1 0 0 0 (wf5 (by omega) (by omega) (by omega) (by omega) (by omega)) (by decide) H22.out 0 rfl).mono ?_
          rintro e23 w23 ⟨rfl, h23⟩
          replace h23 : SepO w (fun _ => False) w23 [Hgg hb kc c (Gr.gdo G22 ⟨3, 1, 0, 0, 0⟩).2] := h23
          generalize (toAn (Gr.gdo G22 ⟨3, 1, 0, 0, 0⟩).1) = an1
          have hend := HEND.out
          obtain ⟨G23, hG23⟩ : ∃ GX, (Gr.gdo G22 ⟨3, 1, 0, 0, 0⟩).2 = GX := ⟨_, rfl⟩
          rw [hG23] at h23 hend
          skip
          have H23 := Lib.hid h23
          clear HEND
          have HEND := Lib.hid hend
          clear h23 H22 hG23 hend
          go_wp2_with fail
          refine (do_g (c := c) (kc := kc) (G := G23) 7 0 1 0 0 (wf5 (by omega) (by omega) (by omega) (by omega) (by omega)) (by decide) H23.out 0 rfl).mono ?_
          rintro e24 w24 ⟨rfl, h24⟩
          replace h24 : SepO w (fun _ => False) w24 [Hgg hb kc c (Gr.gdo G23 ⟨7, 0, 1, 0, 0⟩).2] := h24
          generalize (toAn (Gr.gdo G23 ⟨7, 0, 1, 0, 0⟩).1) = an2
          have hend := HEND.out
          obtain ⟨G24, hG24⟩ : ∃ GX, (Gr.gdo G23 ⟨7, 0, 1, 0, 0⟩).2 = GX := ⟨_, rfl⟩
          rw [hG24] at h24 hend
          rw [hend] at h24
          have H24 := Lib.hid h24
          clear HEND
          have HEND := Lib.hid hend
          clear h24 H23 hG24 hend
          go_wp2_with fail
          go_roundg (gk - 1)
          case measure => have := HJ.out; omega
          case rel => exact ⟨m + 1, by have := HJ.out; omega, by go_num, H24.out⟩
    · obtain rfl : m = sz := by omega
      have HEND := Lib.hid (rg_close m (by omega))
      have h20 := h
      obtain ⟨G20, hG20⟩ : ∃ GX, rgR m = GX := ⟨_, rfl⟩
      rw [hG20] at h20
      have HE := Lib.hid hG20
      have hend := HEND.out
      rw [hG20] at hend
      clear HEND
      have HEND := Lib.hid hend
      have H21 := Lib.hid h20
      clear h h20 hG20 HE hend HJ hlt hm6
      go_wp2_with fail
      refine (do_g (c := c) (kc := kc) (G := G20) 3 2 0 0 0 (wf5 (by omega) (by omega) (by omega) (by omega) (by omega)) (by decide) H21.out 0 rfl).mono ?_
      rintro e22 w22 ⟨rfl, h22⟩
      replace h22 : SepO w (fun _ => False) w22 [Hgg hb kc c (Gr.gdo G20 ⟨3, 2, 0, 0, 0⟩).2] := h22
      generalize (toAn (Gr.gdo G20 ⟨3, 2, 0, 0, 0⟩).1) = an0
      have hend := HEND.out
      obtain ⟨G22, hG22⟩ : ∃ GX, (Gr.gdo G20 ⟨3, 2, 0, 0, 0⟩).2 = GX := ⟨_, rfl⟩
      rw [hG22] at h22 hend
      skip
      have H22 := Lib.hid h22
      clear HEND
      have HEND := Lib.hid hend
      clear h22 H21 hG22 hend
      go_wp2_with fail
      refine (do_g (c := c) (kc := kc) (G := G22) 6 1 0 0 0 (wf5 (by omega) (by omega) (by omega) (by omega) (by omega)) (by decide) H22.out 0 rfl).mono ?_
      rintro e23 w23 ⟨rfl, h23⟩
      replace h23 : SepO w (fun _ => False) w23 [Hgg hb kc c (Gr.gdo G22 ⟨6, 1, 0, 0, 0⟩).2] := h23
      generalize (toAn (Gr.gdo G22 ⟨6, 1, 0, 0, 0⟩).1) = an1
      have hend := HEND.out
      obtain ⟨G23, hG23⟩ : ∃ GX, (Gr.gdo G22 ⟨6, 1, 0, 0, 0⟩).2 = GX := ⟨_, rfl⟩
      rw [hG23] at h23 hend
      skip
      have H23 := Lib.hid h23
      clear HEND
      have HEND := Lib.hid hend
      clear h23 H22 hG23 hend
      go_wp2_with fail
      refine (do_g (c := c) (kc := kc) (G := G23) 6 2 0 0 0 (wf5 (by omega) (by omega) (by omega) (by omega) (by omega)) (by decide) H23.out 0 rfl).mono ?_
      rintro e24 w24 ⟨rfl, h24⟩
      replace h24 : SepO w (fun _ => False) w24 [Hgg hb kc c (Gr.gdo G23 ⟨6, 2, 0, 0, 0⟩).2] := h24
      generalize (toAn (Gr.gdo G23 ⟨6, 2, 0, 0, 0⟩).1) = an2
      have hend := HEND.out
      obtain ⟨G24, hG24⟩ : ∃ GX, (Gr.gdo G23 ⟨6, 2, 0, 0, 0⟩).2 = GX := ⟨_, rfl⟩
      rw [hG24] at h24 hend
      rw [hend] at h24
      have H24 := Lib.hid h24
      clear HEND
      have HEND := Lib.hid hend
      clear h24 H23 hG24 hend
      go_wp2_with fail
      clear HEND
      go_loopg [18, 19] (3 * m) (fun gk i s19 wr => ∃ j x : Nat, j + gk = 3 * m ∧ x = m - j % m ∧ i = .int .i64 j ∧ Sep w wr [Hgg hb kc c (rgQ m x)])
      case atStart => exact ⟨0, m, by omega, by simp, rfl, H24.out⟩
      case round =>
        clear H24
        obtain ⟨j, x, hj, hx, rfl, h⟩ := hrel
        have HJ := Lib.hid hj
        have hj18 : j ≤ 3 * m := by omega
        clear hj
        have h3m : wrap64 (3 * (m : Int)) = 3 * (m : Int) := by unfold wrap64; omega
        by_cases hlt : j < 3 * m
        · have hjm : j % m < m := Nat.mod_lt _ (by omega)
          have hx1 : 1 ≤ x := by omega
          have hxm : x ≤ m := by omega
          obtain ⟨hrd, hgt⟩ := rg_read m x hx1 hxm
          have HRD := Lib.hid hrd
          have HGT := Lib.hid hgt
          have hlt' : (j : Int) < 3 * (m : Int) := by omega
          have hnext : (if x = 1 then m else x - 1) = m - (j + 1) % m := by
            by_cases e : x = 1
            · rw [if_pos e]
              have : (j + 1) % m = 0 := by
                have e2 : j % m = m - 1 := by omega
                rw [Nat.add_mod, e2]
                by_cases h1 : m = 1
                · subst h1; rfl
                · rw [Nat.mod_eq_of_lt (show 1 < m by omega), show m - 1 + 1 = m by omega, Nat.mod_self]
              omega
            · rw [if_neg e]
              have : (j + 1) % m = j % m + 1 := by
                rw [Nat.add_mod, Nat.mod_eq_of_lt (show 1 < m by omega), Nat.mod_eq_of_lt (show j % m + 1 < m by omega)]
              omega
          have HN := Lib.hid hnext
          have HX := Lib.hid hx
          have H25 := Lib.hid h
          clear h hrd hgt hnext hx
          go_wp2_with fail
          refine (stir_g (c := c) (kc := kc) (G := rgQ m x) j (by omega) (HV.out.keep H25.out.keep0 (fun _ _ h => h)) HU.out H25.out 0 rfl).mono ?_
          rintro e26 w26 ⟨rfl, h26⟩
          have H26 := Lib.hid h26
          clear h26 H25
          go_wp2_with fail
          refine (do_g (c := c) (kc := kc) (G := rgQ m x) 4 0 0 0 0 (wf5 (by omega) (by omega) (by omega) (by omega) (by omega)) (by decide) H26.out 0 rfl).mono ?_
          rintro e27 w27 ⟨rfl, h27⟩
          rw [HRD.out] at h27 ⊢
          simp only [toAn]
          replace h27 : SepO w (fun _ => False) w27 [Hgg hb kc c (rgQ m x)] := h27
          have H27 := Lib.hid h27
          clear h27 H26
          go_wp2_with fail
          obtain ⟨jm, hjm2⟩ : ∃ jm, j % m = jm := ⟨_, rfl⟩
          have hX := HX.out
          obtain ⟨y, hy⟩ : ∃ y, x - 1 = y := ⟨_, rfl⟩
          rw [hjm2] at hX hjm
          have ej : (j : Int) % (m : Int) = ((jm : Nat) : Int) := by rw [← hjm2]; simp
          have ej1 : (j : Int).tmod (m : Int) = ((jm : Nat) : Int) := by rw [Int.tmod_eq_emod_of_nonneg (by omega), ej]
          have ej2 : IntKind.i64.wrap ((jm : Nat) : Int) = ((jm : Nat) : Int) := IntWalk.i64_in _ (by omega)
          have em1 : IntKind.i64.wrap ((m : Int) - 1) = (m : Int) - 1 := IntWalk.i64_in _ (by omega)
          have ey0 : (m : Int) - 1 - ((jm : Nat) : Int) = ((y : Nat) : Int) := by omega
          have ey1 : IntKind.i64.wrap ((y : Nat) : Int) = ((y : Nat) : Int) := IntWalk.i64_in _ (by omega)
          have ey2 : ((y : Nat) : Int) % (m : Int) = ((y : Nat) : Int) := Int.emod_eq_of_lt (by omega) (by omega)
          have ey3 : ((y : Nat) : Int).tmod (m : Int) = ((y : Nat) : Int) := by rw [Int.tmod_eq_emod_of_nonneg (by omega), ey2]
          have ey4 : IntKind.u64.wrap ((y : Nat) : Int) = ((y : Nat) : Int) := u64_small (by omega)
          have mz : ¬ (m : Int) = 0 := by omega
          have mz2 : ((m : Int) == 0) = false := by simpa using mz
          have yy : (((y : Nat) : Int) != ((y : Nat) : Int)) = false := by simp
          rw [hy]
          clear hX hjm2 hy
          go_quiet (fail)
          clear ej ej1 ej2 em1 ey0 ey1 ey2 ey3 ey4 yy
          go_wp2_with fail
          refine (do_g (c := c) (kc := kc) (G := rgQ m x) 2 0 0 0 0 (wf5 (by omega) (by omega) (by omega) (by omega) (by omega)) (by decide) ((H27.out.alloc _).drewN _) 0 rfl).mono ?_
          rintro e28 w28 ⟨rfl, h28⟩
          rw [HGT.out, HN.out] at h28
          rw [HGT.out]
          simp only [toAn, Gr.err]
          replace h28 : SepO w (fun _ => False) w28 [Hgg hb kc c (rgQ m (m - (j + 1) % m))] := h28
          have H28 := Lib.hid h28
          clear h28 H27
          go_wp2_with fail
          go_roundg (gk - 1)
          case measure => have := HJ.out; omega
          case rel => exact ⟨j + 1, m - (j + 1) % m, by have := HJ.out; omega, rfl, by go_num, H28.out⟩
        · have H5 := Lib.hid h
          have hlt' : ¬ (j : Int) < 3 * (m : Int) := by omega
          clear h hx hlt
          go_wp2_with fail
          refine (do_g (c := c) (kc := kc) (G := rgQ m x) 6 0 0 0 0 (wf5 (by omega) (by omega) (by omega) (by omega) (by omega)) (by decide) H5.out 0 rfl).mono ?_
          rintro e6 w6 ⟨rfl, h6⟩
          rw [rg_clear] at h6
          generalize (toAn (Gr.gdo (rgQ m x) ⟨6, 0, 0, 0, 0⟩).1) = an6
          replace h6 : SepO w (fun _ => False) w6 [Hgg hb kc c (rgQ m 0)] := h6
          have H6 := Lib.hid h6
          clear h6 H5
          go_wp2_with fail
          refine (Core_g (c := c) (G := rgQ m 0) H6.out 0 rfl).mono ?_
          rintro e7 w7 ⟨rfl, h7⟩
          have H7 := Lib.hid h7
          clear h7 H6
          go_wp2_with fail
          refine (Full_g (c := c) (G := rgQ m 0) (rg_zero m) H7.out 0 rfl).mono ?_
          rintro e8 w8 ⟨n8, rfl, h8⟩
          replace h8 : SepO w (fun _ => False) w8 [Hvd hb kc] := h8
          have H8 := Lib.hid h8
          clear h8 H7
          go_wp2_with fail
          refine (Stats_g H8.out 0 rfl).mono ?_
          rintro e9 w9 ⟨a0, a1, a2, a3, a4, af, rfl, h9⟩
          have H9 := Lib.hid h9
          clear h9 H8
          go_wp2_with fail
          go_ret
          exact ⟨rfl, (H9.out.alloc _).below⟩
end Go.Proofs.YtihmkkjmnbehbaaGreat.Wh
