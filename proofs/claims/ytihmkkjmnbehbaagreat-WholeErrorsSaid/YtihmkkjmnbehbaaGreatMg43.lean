/- Texts of the whole heap, joined: WiJ WiK RowLib RowSS. No condition beside those that each lemma names. -/
import Derived.Test.YtihmkkjmnbehbaaGreatMg42
import Derived.Test.YtihmkkjmnbehbaaGreatRows
import Derived.Test.YtihmkkjmnbehbaaGreatMg15
import Derived.WalkKit
import Derived.ProofKit
import Derived.OpenShut
import Derived.ShutString
import Derived.ChangeOld
import Derived.Below
import Derived.SizedLaws
import Derived.Deep.Fields
import Derived.Deep.Slices
import Derived.ChangeSame
/- Entries over the graph that a heap stands for; the laws' own helpers. No condition. -/
set_option linter.unusedVariables false
set_option linter.unusedSimpArgs false
namespace Go.Proofs.YtihmkkjmnbehbaaGreat.Wh
open Go.RowKit Go.Proofs.YtihmkkjmnbehbaaGreat.W Go.Proofs.YtihmkkjmnbehbaaGreat.Sm
/-- A heap, by its graph; at the start, by what is used of the nursery too. -/
def Hgg (hb kc : Nat) (c : CF) (G : Gr.GS) : Pr := exP fun S : CS => andP (GG c S G) (Hpp hb kc S)
def Hst (hb kc : Nat) (c : CF) (G : Gr.GS) (u : Int) : Pr := exP fun S : CS => andP (GG c S G ∧ St S u) (Hpp hb kc S)
section
variable {W w : World} {oo : Nat → Prop} {k : CK} {S : CS} {l L : List Pr} {F : FuncId} {args : Array Value} {hb kc : Nat} {c : CF} {G : Gr.GS} {u : Int}
theorem hgg_open {i : Nat} (h : SepO W oo w L) (hi : L[i]? = some (Hgg hb kc c G)) : ∃ S, GG c S G ∧ SepO W oo w (L.set i (Hpp hb kc S)) := by
  obtain ⟨o, ⟨S, hg, hp⟩, _, hup⟩ := h.open_ i hi
  exact ⟨S, hg, hup w (Hpp hb kc S) ((Hpp hb kc S).mono hp (fun i h => .inl h)) (Keep.refl _ _)⟩
theorem hst_open {i : Nat} (h : SepO W oo w L) (hi : L[i]? = some (Hst hb kc c G u)) : ∃ S, (GG c S G ∧ St S u) ∧ SepO W oo w (L.set i (Hpp hb kc S)) := by
  obtain ⟨o, ⟨S, hg, hp⟩, _, hup⟩ := h.open_ i hi
  exact ⟨S, hg, hup w (Hpp hb kc S) ((Hpp hb kc S).mono hp (fun i h => .inl h)) (Keep.refl _ _)⟩
theorem hgg_shut {i : Nat} {P : Pr} (hi : L[i]? = some P) (hg : GG c S G) (h : SepO W oo w (L.set i (Hpp hb kc S))) : SepO W oo w (L.set i (Hgg hb kc c G)) := by
  have := h.weak (Q := Hgg hb kc c G) i (by rw [List.getElem?_set_self (List.getElem?_eq_some_iff.1 hi).1]) (fun w o hp => ⟨S, hg, hp⟩)
  rwa [List.set_set] at this
theorem hst_shut {i : Nat} {P : Pr} (hi : L[i]? = some P) (hg : GG c S G) (hs : St S u) (h : SepO W oo w (L.set i (Hpp hb kc S))) : SepO W oo w (L.set i (Hst hb kc c G u)) := by
  have := h.weak (Q := Hst hb kc c G u) i (by rw [List.getElem?_set_self (List.getElem?_eq_some_iff.1 hi).1]) (fun w o hp => ⟨S, ⟨hg, hs⟩, hp⟩)
  rwa [List.set_set] at this
theorem hst_gg {i : Nat} (h : SepO W oo w L) (hi : L[i]? = some (Hst hb kc c G u)) : SepO W oo w (L.set i (Hgg hb kc c G)) := by
  obtain ⟨S, ⟨hg, _⟩, h'⟩ := hst_open h hi
  exact hgg_shut hi hg h'
theorem hNew_g (hc : CFmay c) (h : SepO W oo w L) : Calls Tryz.prog 16 #[.agg c.cells] w fun e w' => ∃ hb kc, e = .returned (.tuple #[pt hb, .int .i64 0]) ∧ SepO W oo w' (L ++ [Hst hb kc c (Gr.gnew c.h c.l) 0]) := by
  refine (hNew_sep hc h).mono ?_
  rintro e w' ⟨hb, kc, rfl, h'⟩
  refine ⟨hb, kc, rfl, ?_⟩
  have := h'.weak (Q := Hst hb kc c (Gr.gnew c.h c.l) 0) L.length (by simp) (fun w o hp => ⟨cnew c, ⟨GG.new hc.ok, St.new c⟩, hp⟩)
  rw [List.set_append_right _ _ (Nat.le_refl _), Nat.sub_self] at this
  exact this
/-- Entries of cycles. -/
theorem doI_g (kd xa xb xc xv : Int) (hx : (⟨kd, xa, xb, xc, xv⟩ : A5).wf) (hk : kd = 11 ∨ kd = 12) (h : SepO W oo w L) (i : Nat) (hi : L[i]? = some (Hgg hb kc c G)) : Calls Tryz.prog 18 #[pt hb, .agg #[.int .i64 kd, .int .i64 xa, .int .i64 xb, .int .i64 xc, .int .u64 xv]] w fun e w' => (∃ a : An, e = .returned a.val) ∧ SepO W oo w' L := by
  obtain ⟨S, hg, h1⟩ := hgg_open h hi
  have hl := (List.getElem?_eq_some_iff.1 hi).1
  refine (Do_sep kd xa xb xc xv hx hg.ok h1 i (by rw [List.getElem?_set_self hl])).mono ?_
  rintro e w' ⟨rfl, h2⟩
  refine ⟨⟨_, rfl⟩, ?_⟩
  rw [List.set_set] at h2
  have := hgg_shut hi (hg.idle _ hx hk) h2
  rwa [list_same hi] at this
/-- Entries that neither are of cycles nor make anything. -/
theorem do_g (kd xa xb xc xv : Int) (hx : (⟨kd, xa, xb, xc, xv⟩ : A5).wf) (hk : kd ≠ 1 ∧ kd ≠ 11 ∧ kd ≠ 12) (h : SepO W oo w L) (i : Nat) (hi : L[i]? = some (Hgg hb kc c G)) : Calls Tryz.prog 18 #[pt hb, .agg #[.int .i64 kd, .int .i64 xa, .int .i64 xb, .int .i64 xc, .int .u64 xv]] w fun e w' => e = .returned (toAn (Gr.gdo G ⟨kd, xa, xb, xc, xv⟩).1).val ∧ SepO W oo w' (L.set i (Hgg hb kc c (Gr.gdo G ⟨kd, xa, xb, xc, xv⟩).2)) := by
  obtain ⟨S, hg, h1⟩ := hgg_open h hi
  have hl := (List.getElem?_eq_some_iff.1 hi).1
  refine (Do_sep kd xa xb xc xv hx hg.ok h1 i (by rw [List.getElem?_set_self hl])).mono ?_
  rintro e w' ⟨rfl, h2⟩
  obtain ⟨e1, e2⟩ := hg.do_ ⟨kd, xa, xb, xc, xv⟩ hx hk.1 hk.2.1 hk.2.2
  rw [e1]
  refine ⟨rfl, ?_⟩
  rw [List.set_set] at h2
  exact hgg_shut hi e2 h2
/-- Something is made, or there is no room. -/
theorem doM_g (xa xb xc xv : Int) (hx : (⟨1, xa, xb, xc, xv⟩ : A5).wf) (h : SepO W oo w L) (i : Nat) (hi : L[i]? = some (Hgg hb kc c G)) : Calls Tryz.prog 18 #[pt hb, .agg #[.int .i64 1, .int .i64 xa, .int .i64 xb, .int .i64 xc, .int .u64 xv]] w fun e w' => (e = .returned (erA 7).val ∧ SepO W oo w' L) ∨ (e = .returned (erA (Gr.gmake G xa xb xc).1).val ∧ SepO W oo w' (L.set i (Hgg hb kc c (Gr.gmake G xa xb xc).2))) := by
  obtain ⟨S, hg, h1⟩ := hgg_open h hi
  have hl := (List.getElem?_eq_some_iff.1 hi).1
  refine (Do_sep 1 xa xb xc xv hx hg.ok h1 i (by rw [List.getElem?_set_self hl])).mono ?_
  rintro e w' ⟨rfl, h2⟩
  rw [List.set_set] at h2
  rcases hg.make ⟨1, xa, xb, xc, xv⟩ hx rfl with ⟨e1, e2⟩ | ⟨e1, e2⟩
  · left
    rw [e1]
    have := hgg_shut hi e2 h2
    rw [list_same hi] at this
    exact ⟨rfl, this⟩
  · right
    rw [e1]
    exact ⟨rfl, hgg_shut hi e2 h2⟩
/-- The first ones have room. -/
theorem doF_g (xa xb xc xv : Int) (hx : (⟨1, xa, xb, xc, xv⟩ : A5).wf) (hu : 0 ≤ u ∧ u < c.mia) (hbd : 0 ≤ xb ∧ 0 ≤ xc ∧ xb + xc ≤ c.l) (hf : u + xb + xc + 2 ≤ c.n) (hh : Gr.has G xa = true) (h : SepO W oo w L) (i : Nat) (hi : L[i]? = some (Hst hb kc c G u)) : Calls Tryz.prog 18 #[pt hb, .agg #[.int .i64 1, .int .i64 xa, .int .i64 xb, .int .i64 xc, .int .u64 xv]] w fun e w' => e = .returned (erA 0).val ∧ SepO W oo w' (L.set i (Hst hb kc c (Gr.gmake G xa xb xc).2 (u + xb + xc + 2))) := by
  obtain ⟨S, ⟨hg, hs⟩, h1⟩ := hst_open h hi
  have hl := (List.getElem?_eq_some_iff.1 hi).1
  refine (Do_sep 1 xa xb xc xv hx hg.ok h1 i (by rw [List.getElem?_set_self hl])).mono ?_
  rintro e w' ⟨rfl, h2⟩
  rw [List.set_set] at h2
  obtain ⟨e1, e2, e3⟩ := hg.first hs hu xv hx hbd hf hh
  rw [e1]
  exact ⟨rfl, hst_shut hi e2 e3 h2⟩
/-- A number is written at the start. -/
theorem doW_g (xa xb xv : Int) (hx : (⟨5, xa, xb, 0, xv⟩ : A5).wf) (h : SepO W oo w L) (i : Nat) (hi : L[i]? = some (Hst hb kc c G u)) : Calls Tryz.prog 18 #[pt hb, .agg #[.int .i64 5, .int .i64 xa, .int .i64 xb, .int .i64 0, .int .u64 xv]] w fun e w' => e = .returned (erA (Gr.gwrite G xa xb xv).1).val ∧ SepO W oo w' (L.set i (Hst hb kc c (Gr.gwrite G xa xb xv).2 u)) := by
  obtain ⟨S, ⟨hg, hs⟩, h1⟩ := hst_open h hi
  have hl := (List.getElem?_eq_some_iff.1 hi).1
  refine (Do_sep 5 xa xb 0 xv hx hg.ok h1 i (by rw [List.getElem?_set_self hl])).mono ?_
  rintro e w' ⟨rfl, h2⟩
  rw [List.set_set] at h2
  obtain ⟨e1, e2⟩ := hg.do_ ⟨5, xa, xb, 0, xv⟩ hx (by simp) (by simp) (by simp)
  rw [e1]
  exact ⟨rfl, hst_shut hi e2 (hs.write xa xb 0 xv) h2⟩
end
end Go.Proofs.YtihmkkjmnbehbaaGreat.Wh
/- The laws' own helpers: leaf, stir, join, wakes. No condition. -/
set_option linter.unusedVariables false
set_option linter.unusedSimpArgs false
namespace Go.Proofs.YtihmkkjmnbehbaaGreat.Wh
open Go.RowKit Go.Proofs.YtihmkkjmnbehbaaGreat.W Go.Proofs.YtihmkkjmnbehbaaGreat.Sm
section
variable {W w : World} {oo : Nat → Prop} {k : CK} {S : CS} {l L : List Pr} {F : FuncId} {args : Array Value} {hb kc : Nat} {c : CF} {G : Gr.GS} {u : Int}
/-- A graph with one more node, that holds one number. -/
def leafG (G : Gr.GS) (xa n r : Int) : Gr.GS := { G with nodes := G.nodes ++ [⟨List.replicate r.toNat 0, [n]⟩], hs := G.hs.set xa.toNat (G.nodes.length + 1) }
theorem leaf_eq {xa n r : Int} (hh : Gr.has G xa = true) (hf : Gr.fits G r 1 = true) : (Gr.gmake G xa r 1).1 = 0 ∧ (Gr.gwrite (Gr.gmake G xa r 1).2 xa 0 n) = (0, leafG G xa n r) := by
  have e : Gr.gmake G xa r 1 = (0, { G with nodes := G.nodes ++ [⟨List.replicate r.toNat 0, List.replicate (1 : Int).toNat 0⟩], hs := G.hs.set xa.toNat (G.nodes.length + 1) }) := by
    unfold Gr.gmake; rw [if_pos hh, if_pos hf]
  rw [e]
  refine ⟨rfl, ?_⟩
  have h1 := (Gr.has_iff G xa).1 hh
  obtain ⟨G1, hG1⟩ : ∃ G1 : Gr.GS, { G with nodes := G.nodes ++ [⟨List.replicate r.toNat 0, List.replicate (1 : Int).toNat 0⟩], hs := G.hs.set xa.toNat (G.nodes.length + 1) } = G1 := ⟨_, rfl⟩
  have k1 : Gr.has G1 xa = true := by rw [← hG1]; unfold Gr.has; simp; omega
  have k2 : Gr.held G1 xa = G.nodes.length + 1 := by
    rw [← hG1]; unfold Gr.held; simp only []
    rw [List.getElem?_set_self (by omega)]; rfl
  have k3 : Gr.nod G1 (G.nodes.length + 1) = ⟨List.replicate r.toNat 0, [0]⟩ := by
    rw [← hG1]; unfold Gr.nod; simp
  dsimp only
  rw [hG1]
  unfold Gr.gwrite
  have k4 : Gr.wrong G1 xa = 0 := by unfold Gr.wrong; rw [if_pos k1, k2, if_neg (by omega)]
  rw [if_pos k4, k2, k3]
  simp only [List.length_singleton]
  rw [if_pos (by decide)]
  unfold leafG Gr.setN
  rw [← hG1]
  simp
theorem wf5 {kd xa xb xc xv : Int} (h0 : 0 ≤ kd ∧ kd ≤ 4611686018427387904) (h1 : 0 ≤ xa ∧ xa ≤ 4611686018427387904) (h2 : 0 ≤ xb ∧ xb ≤ 4611686018427387904) (h3 : 0 ≤ xc ∧ xc ≤ 4611686018427387904) (h4 : 0 ≤ xv ∧ xv ≤ 4611686018427387904) : (⟨kd, xa, xb, xc, xv⟩ : A5).wf := by
  unfold A5.wf; simp only []; omega
theorem run_fE (a b c d : Value) (W : World) : (Instr.field 33 (.agg #[a, b, c, d]) 0).run Tryz.prog W = .ok a W := by kernel_rfl
theorem run_fY (a b c d : Value) (W : World) : (Instr.field 33 (.agg #[a, b, c, d]) 1).run Tryz.prog W = .ok b W := by kernel_rfl
theorem run_fN (a b c d : Value) (W : World) : (Instr.field 33 (.agg #[a, b, c, d]) 2).run Tryz.prog W = .ok c W := by kernel_rfl
theorem run_fV (a b c d : Value) (W : World) : (Instr.field 33 (.agg #[a, b, c, d]) 3).run Tryz.prog W = .ok d W := by kernel_rfl
/-- A leaf, or there is no room. -/
theorem leaf_g (xa n r : Int) (hx : 0 ≤ xa ∧ xa ≤ 64) (hn : 0 ≤ n ∧ n ≤ 1000000) (hr : 0 ≤ r ∧ r ≤ 64) (hh : Gr.has G xa = true) (hf : Gr.fits G r 1 = true) (h : SepO W oo w L) (i : Nat) (hi : L[i]? = some (Hgg hb kc c G)) : Calls Tryz.prog 20 #[pt hb, .int .i64 xa, .int .i64 n, .int .i64 r] w fun e w' => (e = .returned (.bool false) ∧ SepO W oo w' L) ∨ (e = .returned (.bool true) ∧ SepO W oo w' (L.set i (Hgg hb kc c (leafG G xa n r)))) := by
  obtain ⟨e1, e2⟩ := leaf_eq (n := n) hh hf
  obtain ⟨hx0, hx1⟩ := hx
  obtain ⟨hn0, hn1⟩ := hn
  obtain ⟨hr0, hr1⟩ := hr
  have hl := (List.getElem?_eq_some_iff.1 hi).1
  have hu : IntKind.u64.wrap n = n := u64_small (by omega)
  have fE := run_fE
  have HI := Lib.hid hi
  have H := Lib.hid h
  have HL := Lib.hid hl
  have HE1 := Lib.hid e1
  have HE2 := Lib.hid e2
  clear h hi hl hh hf e1 e2
  go_enter Tryz.func20, Tryz.ntmps20
  go_wp2_with fail
  refine (doM_g (c := c) (G := G) (kc := kc) xa r 1 0 (wf5 (by omega) (by omega) (by omega) (by omega) (by omega)) H.out i HI.out).mono ?_
  rintro e w1 (⟨rfl, h1⟩ | ⟨rfl, h1⟩)
  · have H1 := Lib.hid h1
    simp only [erA]
    clear h1 H
    go_wp2_with fail
    go_ret
    exact .inl ⟨rfl, H1.out⟩
  · have H1 := Lib.hid h1
    rw [HE1.out]
    simp only [erA]
    clear h1 H
    go_wp2_with fail
    refine (do_g (c := c) (kc := kc) 5 xa 0 0 n (wf5 (by omega) (by omega) (by omega) (by omega) (by omega)) (by decide) H1.out i (by rw [List.getElem?_set_self HL.out])).mono ?_
    rintro e w2 ⟨rfl, h2⟩
    have eg : Gr.gdo (Gr.gmake G xa r 1).2 ⟨5, xa, 0, 0, n⟩ = (Gr.err 0, leafG G xa n r) := by
      show Gr.ans (Gr.gwrite (Gr.gmake G xa r 1).2 xa 0 n) = _
      rw [HE2.out]; rfl
    rw [eg] at h2 ⊢
    rw [List.set_set] at h2
    have H2 := Lib.hid h2
    simp only [toAn, Gr.err]
    clear h2 H1 eg
    go_wp2_with fail
    go_ret
    exact .inr ⟨rfl, H2.out⟩
set_option maxHeartbeats 2000000 in
/-- Idle work, or a cycle that is forced. -/
theorem stir_g {ok : Nat → Prop} {v : Value} {idle : List Int} (j : Nat) (hj : j ≤ 1000000) (hv : SL w ok .u8 v idle) (hu : ∀ x ∈ idle, U8 x) (h : SepO W oo w L) (i : Nat) (hi : L[i]? = some (Hgg hb kc c G)) : Calls Tryz.prog 21 #[pt hb, v, .int .i64 j] w fun e w' => e = .returned (.tuple #[]) ∧ SepO W oo w' L := by
  obtain ⟨A, cp, rfl, hlen, hc⟩ := hv
  have HI := Lib.hid hi
  have H := Lib.hid h
  rcases Nat.eq_zero_or_pos idle.length with h0 | h0
  · have H0 := Lib.hid h0
    rw [h0]
    clear h hi hu hc hlen h0
    go_enter Tryz.func21, Tryz.ntmps21
    go_wp2_with fail
    refine bodyPost_ret (v := .tuple #[]) (by simp [results, Tryz.results21, go_sem]) rfl ⟨rfl, H.out⟩
  · obtain ⟨b, o, rfl, _, hbl, hcell⟩ := hc h0
    have hjm : j % idle.length < idle.length := Nat.mod_lt _ h0
    have c0 := hcell _ hjm
    have hx : U8 (idle[j % idle.length]?.getD 0) := by
      rw [List.getElem?_eq_getElem hjm]; exact hu _ (List.getElem_mem _)
    generalize idle[j % idle.length]?.getD 0 = x at c0 hx
    generalize idle.length = n at *
    have hne : ((n : Int) == 0) = false := by simp; omega
    unfold U8 at hx
    obtain ⟨hx0, hx1⟩ := hx
    clear h hi hu hc hcell
    cases hx4 : (x % 4 == 0)
    · go_enter Tryz.func21, Tryz.ntmps21
      go_wp2_with fail
      refine (doI_g (c := c) (G := G) (kc := kc) 11 (x % 2) (x / 6) 0 0 (wf5 (by omega) (by omega) (by omega) (by omega) (by omega)) (.inl rfl) H.out i HI.out).mono ?_
      rintro e w1 ⟨⟨a, rfl⟩, h1⟩
      have H1 := Lib.hid h1
      clear h1 H
      go_wp2_with fail
      go_end0
      exact ⟨rfl, H1.out⟩
    · go_enter Tryz.func21, Tryz.ntmps21
      go_wp2_with fail
      refine (doI_g (c := c) (G := G) (kc := kc) 12 (x / 4 % 2) 0 0 0 (wf5 (by omega) (by omega) (by omega) (by omega) (by omega)) (.inr rfl) H.out i HI.out).mono ?_
      rintro e w1 ⟨⟨a, rfl⟩, h1⟩
      have H1 := Lib.hid h1
      clear h1 H
      go_wp2_with fail
      refine (doI_g (c := c) (G := G) (kc := kc) 11 (x % 2) (x / 6) 0 0 (wf5 (by omega) (by omega) (by omega) (by omega) (by omega)) (.inl rfl) H1.out i HI.out).mono ?_
      rintro e w2 ⟨⟨a2, rfl⟩, h2⟩
      have H2 := Lib.hid h2
      clear h2 H1
      go_wp2_with fail
      go_end0
      exact ⟨rfl, H2.out⟩
end
section
variable {W w : World} {oo : Nat → Prop} {l L : List Pr} {hb kc : Nat} {c : CF} {G : Gr.GS} {u : Int}
theorem Hst_force {S : CS} (h : GG c S G) (hs : St S u) : (S.doS ⟨12, 0, 0, 0, 0⟩).1 = ⟨0, true, 0, 0⟩ := by
  obtain ⟨⟨m, R, h⟩, _⟩ := h
  obtain ⟨m', _, _, _, e⟩ := h.minStart
  show (⟨0, S.minStart.1, 0, 0⟩ : An) = _
  rw [e, hs.1]; rfl
/-- A first minor cycle. -/
theorem doFo_g (h : SepO W oo w L) (i : Nat) (hi : L[i]? = some (Hst hb kc c G u)) : Calls Tryz.prog 18 #[pt hb, .agg #[.int .i64 12, .int .i64 0, .int .i64 0, .int .i64 0, .int .u64 0]] w fun e w' => e = .returned (An.val ⟨0, true, 0, 0⟩) ∧ SepO W oo w' (L.set i (Hgg hb kc c G)) := by
  obtain ⟨S, ⟨hg, hs⟩, h1⟩ := hst_open h hi
  have hl := (List.getElem?_eq_some_iff.1 hi).1
  have hx : (⟨12, 0, 0, 0, 0⟩ : A5).wf := wf5 (by omega) (by omega) (by omega) (by omega) (by omega)
  refine (Do_sep 12 0 0 0 0 hx hg.ok h1 i (by rw [List.getElem?_set_self hl])).mono ?_
  rintro e w' ⟨rfl, h2⟩
  rw [List.set_set] at h2
  rw [Hst_force hg hs]
  exact ⟨rfl, hgg_shut hi (hg.idle _ hx (.inr rfl)) h2⟩
set_option maxHeartbeats 2000000 in
theorem wakes_calls (w : World) : Calls Tryz.prog 17 #[] w fun e w' => e = .returned (.bool true) ∧ Keep (fun _ => False) w w' := by
  have hm : CFmay (cfg 3 40 80 20) := cfg_may (by unfold U8; omega) (by unfold U8; omega) (by unfold U8; omega) (by unfold U8; omega)
  have HM := Lib.hid hm
  clear hm
  go_enter Tryz.func17, Tryz.ntmps17
  go_wp2_with fail
  refine (config_l (a := 3) (b := 40) (d := 80) (e := 20) (by unfold U8; omega) (by unfold U8; omega) (by unfold U8; omega) (by unfold U8; omega) (Sep.nil w)).mono ?_
  rintro e w1 ⟨rfl, h1⟩
  have H1 := Lib.hid h1
  clear h1
  go_wp2_with fail
  refine (hNew_g (c := cfg 3 40 80 20) HM.out H1.out).mono ?_
  rintro e w2 ⟨hb, kc, rfl, h2⟩
  have H2 := Lib.hid h2
  clear h2 H1
  go_wp2_with fail
  refine (doF_g (c := cfg 3 40 80 20) (u := 0) 0 1 1 0 (wf5 (by omega) (by omega) (by omega) (by omega) (by omega)) (by decide) (by decide) (by decide) (by decide) H2.out 0 rfl).mono ?_
  rintro e w3 ⟨rfl, h3⟩
  replace h3 : SepO w (fun _ => False) w3 [Hst hb kc (cfg 3 40 80 20) (Gr.gmake (Gr.gnew 5 5) 0 1 1).2 4] := h3
  have h3 := h3.new_blk 33 #[i6 0, .bool false, i6 0, .int .u64 0]
  obtain ⟨z3, hz3⟩ : ∃ z, w3.heap.size = z := ⟨_, rfl⟩
  rw [hz3] at h3
  have H3 := Lib.hid h3
  simp only [erA]
  clear h3 H2
  go_wp2_with fail
  refine (doW_g (c := cfg 3 40 80 20) 0 0 9 (wf5 (by omega) (by omega) (by omega) (by omega) (by omega)) H3.out 0 rfl).mono ?_
  rintro e w4 ⟨rfl, h4⟩
  obtain ⟨G4, hG4⟩ : ∃ G4, (Gr.gwrite (Gr.gmake (Gr.gnew 5 5) 0 1 1).2 0 0 9) = (0, G4) := ⟨_, rfl⟩
  replace h4 : SepO w (fun _ => False) w4 [Hst hb kc (cfg 3 40 80 20) (Gr.gwrite (Gr.gmake (Gr.gnew 5 5) 0 1 1).2 0 0 9).2 4, blkP z3 33 #[i6 0, .bool false, i6 0, .int .u64 0]] := h4
  rw [hG4] at h4 ⊢
  have h4 := h4.new_blk 33 #[i6 0, .bool false, i6 0, .int .u64 0]
  obtain ⟨z4, hz4⟩ : ∃ z, w4.heap.size = z := ⟨_, rfl⟩
  rw [hz4] at h4
  have H4 := Lib.hid h4
  have HG := Lib.hid hG4
  simp only [erA]
  clear h4 H3 hG4
  go_wp2_with fail
  refine (doFo_g (c := cfg 3 40 80 20) H4.out 0 rfl).mono ?_
  rintro e w5 ⟨rfl, h5⟩
  replace h5 : SepO w (fun _ => False) w5 [Hgg hb kc (cfg 3 40 80 20) G4, blkP z3 33 #[i6 0, .bool false, i6 0, .int .u64 0], blkP z4 33 #[i6 0, .bool false, i6 0, .int .u64 0]] := h5
  have h5 := h5.new_blk 33 #[i6 0, .bool true, i6 0, .int .u64 0]
  obtain ⟨z5, hz5⟩ : ∃ z, w5.heap.size = z := ⟨_, rfl⟩
  rw [hz5] at h5
  have H5 := Lib.hid h5
  clear h5 H4
  go_wp2_with fail
  refine (do_g (c := cfg 3 40 80 20) 4 0 0 0 0 (wf5 (by omega) (by omega) (by omega) (by omega) (by omega)) (by decide) H5.out 0 rfl).mono ?_
  rintro e w6 ⟨rfl, h6⟩
  have ea : (Gr.gdo G4 ⟨4, 0, 0, 0, 0⟩).1 = ⟨0, false, 0, 9⟩ := by
    have := HG.out
    have e2 : (Gr.gwrite (Gr.gmake (Gr.gnew 5 5) 0 1 1).2 0 0 9).2 = G4 := by rw [this]
    rw [← e2]; rfl
  rw [ea]
  have h6 := h6.new_blk 33 #[i6 0, .bool false, i6 0, .int .u64 9]
  obtain ⟨z6, hz6⟩ : ∃ z, w6.heap.size = z := ⟨_, rfl⟩
  rw [hz6] at h6
  have b3 := h6.blk (g := z3) (t := 33) (cs := #[i6 0, .bool false, i6 0, .int .u64 0]) 1 rfl
  have b4 := h6.blk (g := z4) (t := 33) (cs := #[i6 0, .bool false, i6 0, .int .u64 0]) 2 rfl
  have b5 := h6.blk (g := z5) (t := 33) (cs := #[i6 0, .bool true, i6 0, .int .u64 0]) 3 rfl
  have b6 := h6.blk (g := z6) (t := 33) (cs := #[i6 0, .bool false, i6 0, .int .u64 9]) 4 rfl
  have c3 := b3.cell 0
  have c4 := b4.cell 0
  have c5 := b5.cell 1
  have c6 := b6.cell 3
  simp at c3 c4 c5 c6
  simp only [toAn]
  have H6 := Lib.hid h6.keep0
  clear h6 H5 ea HG b3 b4 b5 b6
  go_wp2_with fail
  go_ret
  exact ⟨rfl, H6.out⟩
theorem wakes_l (h : SepO W oo w L) : Calls Tryz.prog 17 #[] w fun e w' => e = .returned (.bool true) ∧ SepO W oo w' L :=
  (wakes_calls w).mono fun e w' ⟨h1, h2⟩ => ⟨h1, h.stay h2⟩
end
end Go.Proofs.YtihmkkjmnbehbaaGreat.Wh
/- Row laws over any program: what a law's row asks, out of a contract on the call that says 'true, and nothing that was there has changed'. Conditions: none beside those that each theorem states. -/
namespace Go.Proofs.YtihmkkjmnbehbaaGreat.RL
open Go.ChangeShapes Go.WideShapes Go.ChangeAt Go.RowKit Go.Deep

section
variable {H : Type} {enc : TypeId × Value → H} {P : Program}

theorem trodAll_below (hl : laidOutB P = true) {W W' : World} (hb : Below W.heap.size W W') :
    ∀ {ts : List TypeId} {vs : List Value} {ds : List (DataW H)} {ps : List MemPlace}, (ts.all fun t => P.readableRec t && decide (t < P.types.size)) = true →
      DataW.TrodAll enc P W 0 (fun _ => true) true ts vs ds ps → (∀ x ∈ ps, x.block < W.heap.size) →
      DataW.TrodAll enc P W' 0 (fun b => decide (b < W.heap.size)) true ts vs ds ps
  | [], vs, ds, ps, _, h, _ => by
    obtain ⟨rfl, rfl, rfl⟩ := trodAll_nil h
    exact trodAll_mk0
  | t :: ts, vs, ds, ps, hr, h, hlt => by
    obtain ⟨v, vs, d, ds, p, q, rfl, rfl, rfl, h1, h2⟩ := trodAll_cons h
    simp only [List.all_cons, Bool.and_eq_true, decide_eq_true_eq] at hr
    refine trodAll_cons_mk (Below.trod hl hr.1.1 hr.1.2 h1 hb fun x hx => hlt x (List.mem_append.2 (.inl hx))) ?_
    exact trodAll_below hl hb hr.2 h2 fun x hx => hlt x (List.mem_append.2 (.inr hx))

variable {w : World} {base : Nat} {spare : Nat → Bool} {held : Bool}

theorem list_of_5 {α : Type} {cs : List α} {c0 c1 c2 c3 c4 : α} (hl : cs.length = 5) (h0 : cs[0]? = some c0) (h1 : cs[1]? = some c1) (h2 : cs[2]? = some c2) (h3 : cs[3]? = some c3) (h4 : cs[4]? = some c4) : cs = [c0, c1, c2, c3, c4] := by
  match cs, hl with
  | [x0, x1, x2, x3, x4], _ => simp_all
theorem list_of_7 {α : Type} {cs : List α} {c0 c1 c2 c3 c4 c5 c6 : α} (hl : cs.length = 7) (h0 : cs[0]? = some c0) (h1 : cs[1]? = some c1) (h2 : cs[2]? = some c2) (h3 : cs[3]? = some c3) (h4 : cs[4]? = some c4) (h5 : cs[5]? = some c5) (h6 : cs[6]? = some c6) : cs = [c0, c1, c2, c3, c4, c5, c6] := by
  match cs, hl with
  | [x0, x1, x2, x3, x4, x5, x6], _ => simp_all
theorem list_of_13 {α : Type} {cs : List α} {c0 c1 c2 c3 c4 c5 c6 c7 c8 c9 c10 c11 c12 : α} (hl : cs.length = 13) (h0 : cs[0]? = some c0) (h1 : cs[1]? = some c1) (h2 : cs[2]? = some c2) (h3 : cs[3]? = some c3) (h4 : cs[4]? = some c4) (h5 : cs[5]? = some c5) (h6 : cs[6]? = some c6) (h7 : cs[7]? = some c7) (h8 : cs[8]? = some c8) (h9 : cs[9]? = some c9) (h10 : cs[10]? = some c10) (h11 : cs[11]? = some c11) (h12 : cs[12]? = some c12) : cs = [c0, c1, c2, c3, c4, c5, c6, c7, c8, c9, c10, c11, c12] := by
  match cs, hl with
  | [x0, x1, x2, x3, x4, x5, x6, x7, x8, x9, x10, x11, x12], _ => simp_all

/-- A struct of one-cell fields that comes in by value: its cells, each with its own reading. -/
theorem open_agg {r : Reach} {b0 : Nat} {t : TypeId} {fs : Array Field} {v : Value} {d : DataW H} {p : List MemPlace} (hs : P.underlying t = some (.struct fs)) (hone : oneCellFields P fs = true) (hC : P.cellsOf t = fs.size)
    (hv : Value.okWide P w r b0 t v) (h : DataW.Trod enc P w base spare held t v d p) :
    ∃ (cs : List Value) (n : Nat), v = .agg cs.toArray ∧ cs.length = fs.size ∧ ∀ (j : Nat) (f : Field), fs[j]? = some f → ∃ (c : Value) (y : DataW H × List MemPlace), cs[j]? = some c ∧ DataW.trod enc P w base spare held n f.type [c] = some y := by
  obtain ⟨cs, rfl, hsz⟩ := okWide_struct hs hv
  obtain ⟨l⟩ := cs
  have hl : l.length = fs.size := by rw [← hC, ← hsz]; simp
  obtain ⟨fuel, hf⟩ := h
  obtain ⟨xs, n, _, hx, _, hlen, hg⟩ := DataW.trod_struct hs hf
  refine ⟨l, n, rfl, hl, fun j f hj => ?_⟩
  have hjl : j < fs.size := (Array.getElem?_eq_some_iff.1 hj).1
  obtain ⟨ho, hk⟩ := hone_of hone j f hj
  have hc : l[j]? = some (l[j]'(by omega)) := List.getElem?_eq_getElem (by omega)
  have hy : xs[j]? = some (xs[j]'(by omega)) := List.getElem?_eq_getElem (by omega)
  refine ⟨l[j]'(by omega), xs[j]'(by omega), hc, ?_⟩
  have h1 := hg j f hj
  rw [ho, hk] at h1
  have hd : (l.drop j).take 1 = [l[j]'(by omega)] := by
    rw [List.drop_eq_getElem_cons (by omega)]
    rfl
  rw [← hy, ← h1, ← hd]
  simp [Value.cells]

theorem field_int {t : TypeId} {k : IntKind} {n : Nat} {c : Value} {y : DataW H × List MemPlace} (ht : P.underlying t = some (.int k)) (h : DataW.trod enc P w base spare held n t [c] = some y) : ∃ a, c = .int k a ∧ (Lit.int k a).wf = true := by
  obtain ⟨a, e, _, hw⟩ := DataW.trod_int ht h
  exact ⟨a, by simpa using e, hw⟩
theorem field_bool {t : TypeId} {n : Nat} {c : Value} {y : DataW H × List MemPlace} (ht : P.underlying t = some .bool) (h : DataW.trod enc P w base spare held n t [c] = some y) : ∃ a, c = .bool a := by
  obtain ⟨a, e, _⟩ := DataW.trod_bool ht h
  exact ⟨a, by simpa using e⟩
end
theorem u8_b {a : Int} (h : (Lit.int .u8 a).wf = true) : 0 ≤ a ∧ a ≤ 255 := by
  simpa [Lit.wf, IntKind.min, IntKind.max, IntKind.signed, IntKind.bits] using h
theorem u16_b {a : Int} (h : (Lit.int .u16 a).wf = true) : 0 ≤ a ∧ a ≤ 65535 := by
  simpa [Lit.wf, IntKind.min, IntKind.max, IntKind.signed, IntKind.bits] using h
theorem u32_b {a : Int} (h : (Lit.int .u32 a).wf = true) : 0 ≤ a ∧ a ≤ 4294967295 := by
  simpa [Lit.wf, IntKind.min, IntKind.max, IntKind.signed, IntKind.bits] using h
theorem u64_b {a : Int} (h : (Lit.int .u64 a).wf = true) : 0 ≤ a ∧ a ≤ 18446744073709551615 := by
  simpa [Lit.wf, IntKind.min, IntKind.max, IntKind.signed, IntKind.bits] using h
theorem i64_b {a : Int} (h : (Lit.int .i64 a).wf = true) : -9223372036854775808 ≤ a ∧ a ≤ 9223372036854775807 := by
  simpa [Lit.wf, IntKind.min, IntKind.max, IntKind.signed, IntKind.bits] using h
end Go.Proofs.YtihmkkjmnbehbaaGreat.RL
/- Slices of structs that come in, as lists. No condition. -/
set_option linter.unusedVariables false
namespace Go.Proofs.YtihmkkjmnbehbaaGreat.RL
open Go.ChangeShapes Go.WideShapes Go.ChangeAt Go.RowKit Go.Deep Go.Proofs.YtihmkkjmnbehbaaGreat.W

section
variable {H : Type} {enc : TypeId × Value → H} {P : Program} {w : World}
theorem spot_lit {a : Addr} {v : Value} (h : w.cell? (a.add 0) = some v) : ∃ b o, a = ⟨b, o, none⟩ ∧ b < w.heap.size := by
  obtain ⟨b, o, s⟩ := a
  have e0 : (Addr.mk b o s).add 0 = ⟨b, o, s⟩ := by simp [Addr.add]
  rw [e0] at h
  have hl := World.block_lt_of_cell? w _ h
  cases s with
  | none => exact ⟨b, o, rfl, hl⟩
  | some x =>
    unfold World.cell? at h
    split at h
    · simp at h
    · cases h

theorem open_rows {r : Reach} {b0 : Nat} {t e : TypeId} {fs : Array Field} {v : Value} {d : DataW H} {p : List MemPlace} (ht : P.underlying t = some (.slice e)) (he : P.underlying e = some (.struct fs))
    (hone : oneCellFields P fs = true) (hC : P.cellsOf e = fs.size) (h0 : 0 < fs.size)
    (hv : Value.okWide P w r b0 t v) (h : DataW.Trod enc P w 0 (fun _ => true) true t v d p) :
    ∃ rows : List (List Value), SS w (fun i => i < w.heap.size) id fs.size v rows ∧
      ∀ x ∈ rows, x.length = fs.size ∧ ∀ (j : Nat) (f : Field), fs[j]? = some f → ∃ (u : Value) (y : DataW H × List MemPlace) (n : Nat), x[j]? = some u ∧ DataW.trod enc P w 0 (fun _ => true) true n f.type [u] = some y := by
  obtain ⟨a0, len, cap, rfl⟩ := okWide_slice ht hv
  obtain ⟨fuel, hf⟩ := h
  rcases open_slice ht (by simpa [Value.cells] using hf) with ⟨hcs, _⟩ | ⟨a, len', cap', m, n, D, Pl, hcs, hb, hl, hm, hmm, hx, hi⟩
  · simp at hcs
    obtain ⟨rfl, rfl, rfl⟩ := hcs
    exact ⟨[], ⟨none, 0, rfl, by simp, fun h => by simp at h⟩, fun n hn => by simp at hn⟩
  · simp at hcs
    obtain ⟨rfl, rfl, rfl⟩ := hcs
    simp only [if_true] at hmm
    subst hmm
    unfold maxLen at hm
    have hrow : ∀ i, i < len → ∃ cs : List Value, cs.length = fs.size ∧ (∀ j u, cs[j]? = some u → w.cell? (a.add (i * fs.size + j)) = some u) ∧ ∀ (j : Nat) (f : Field), fs[j]? = some f → ∃ (u : Value) (y : DataW H × List MemPlace) (n : Nat), cs[j]? = some u ∧ DataW.trod enc P w 0 (fun _ => true) true n f.type [u] = some y := by
      intro i him
      obtain ⟨cs', hc, ht'⟩ := hi i (by omega)
      rw [hC] at hc
      obtain ⟨ys, n', hn', hy, hlen, hyl, hf⟩ := DataW.trod_struct he ht'
      obtain ⟨_, hcl, hat⟩ := World.cells?_some hc
      have hcl' : cs'.length = fs.size := hcl
      refine ⟨cs', hcl', fun j u hu => ?_, fun j f hj => ?_⟩
      · have hjl : j < fs.size := by have := (List.getElem?_eq_some_iff.1 hu).1; omega
        have hcell := hat j hjl
        rw [← Go.Deep.add_add, hcell, hu]
      · obtain ⟨ho, hk⟩ := hone_of hone j f hj
        have hjl : j < fs.size := (Array.getElem?_eq_some_iff.1 hj).1
        have hv : cs'[j]? = some (cs'[j]'(by omega)) := List.getElem?_eq_getElem (by omega)
        have h1 := hf j f hj
        rw [ho, hk] at h1
        have hone' : (cs'.drop j).take 1 = [cs'[j]'(by omega)] := by
          rw [List.drop_eq_getElem_cons (by omega)]
          rfl
        rw [hone'] at h1
        have hys : ys[j]? = some (ys[j]'(by omega)) := List.getElem?_eq_getElem (by omega)
        exact ⟨_, _, _, hv, h1.trans hys⟩
    have hpick : ∀ k, k ≤ len → ∃ rows : List (List Value), rows.length = k ∧ ∀ i x, rows[i]? = some x → x.length = fs.size ∧ (∀ j u, x[j]? = some u → w.cell? (a.add (i * fs.size + j)) = some u) ∧ ∀ (j : Nat) (f : Field), fs[j]? = some f → ∃ (u : Value) (y : DataW H × List MemPlace) (n : Nat), x[j]? = some u ∧ DataW.trod enc P w 0 (fun _ => true) true n f.type [u] = some y := by
      intro k
      induction k with
      | zero => exact fun _ => ⟨[], rfl, fun i x hx => by simp at hx⟩
      | succ k ih =>
        intro hk
        obtain ⟨rows, hr, hall⟩ := ih (by omega)
        obtain ⟨cs, h1, h2, h3⟩ := hrow k (by omega)
        refine ⟨rows ++ [cs], by simp [hr], fun i x hx => ?_⟩
        rcases Nat.lt_or_ge i rows.length with hlt | hge
        · rw [List.getElem?_append_left hlt] at hx
          exact hall i x hx
        · rw [List.getElem?_append_right hge] at hx
          have : i = k := by
            have := (List.getElem?_eq_some_iff.1 hx).1
            simp at this
            omega
          subst this
          rw [hr, Nat.sub_self] at hx
          simp at hx
          subst hx
          exact ⟨h1, h2, h3⟩
    obtain ⟨rows, hr, hall⟩ := hpick len (Nat.le_refl _)
    refine ⟨rows, ⟨some a, m, by rw [hr], by omega, fun h00 => ?_⟩, fun x hx => ?_⟩
    · rw [hr] at h00
      obtain ⟨x, hx⟩ : ∃ x, rows[0]? = some x := ⟨rows[0]'(by omega), List.getElem?_eq_getElem (by omega)⟩
      obtain ⟨hx1, hx2, hx3⟩ := hall 0 x hx
      have hu : x[0]? = some (x[0]'(by omega)) := List.getElem?_eq_getElem (by omega)
      have c0 := hx2 0 _ hu
      simp only [Nat.zero_mul, Nat.add_zero] at c0
      obtain ⟨b, o, rfl, hbl⟩ := spot_lit c0
      refine ⟨b, o, rfl, hbl, hbl, fun j y hy i u hu => ?_⟩
      have := (hall j y hy).2.1 i u hu
      rwa [Addr.add_lit] at this
    · obtain ⟨i, hi', hx'⟩ := List.getElem_of_mem hx
      exact ⟨(hall i x (by rw [← hx']; exact List.getElem?_eq_getElem hi')).1, (hall i x (by rw [← hx']; exact List.getElem?_eq_getElem hi')).2.2⟩

theorem rows_map {α : Type} {Q : List Value → Prop} {g : α → List Value} {G : α → Prop} (hq : ∀ x, Q x → ∃ a, x = g a ∧ G a) : ∀ rows : List (List Value), (∀ x ∈ rows, Q x) → ∃ l : List α, rows = l.map g ∧ ∀ a ∈ l, G a
  | [], _ => ⟨[], rfl, fun a h => by simp at h⟩
  | x :: xs, h => by
    obtain ⟨l, e, hl⟩ := rows_map hq xs (fun y hy => h y (List.mem_cons_of_mem _ hy))
    obtain ⟨a, ea, ha⟩ := hq x (h x List.mem_cons_self)
    exact ⟨a :: l, by rw [List.map_cons, ← ea, ← e], fun b hb => by
      rcases List.mem_cons.1 hb with rfl | hb
      · exact ha
      · exact hl b hb⟩

theorem open_A2 {r : Reach} {b0 : Nat} {t e i : TypeId} {fs : Array Field} {v : Value} {d : DataW H} {p : List MemPlace} (ht : P.underlying t = some (.slice e)) (he : P.underlying e = some (.struct fs))
    (hone : oneCellFields P fs = true) (hC : P.cellsOf e = fs.size) (hi : P.underlying i = some (.int .i64)) (hf : fs.toList.map (·.type) = [i, i])
    (hv : Value.okWide P w r b0 t v) (h : DataW.Trod enc P w 0 (fun _ => true) true t v d p) :
    ∃ l : List A2, SS w (fun i => i < w.heap.size) A2.cells 2 v l ∧ ∀ x ∈ l, A2.wf x := by
  obtain ⟨fs⟩ := fs
  have hlen : fs.length = 2 := by simpa using congrArg List.length hf
  match fs, hlen with
  | [f0, f1], _ =>
    simp only [List.map_cons, List.map_nil, List.cons.injEq, and_true] at hf
    obtain ⟨t0, t1⟩ := hf
    obtain ⟨rows, hS, hr⟩ := open_rows ht he hone hC (by simp) hv h
    obtain ⟨l, rfl, hl⟩ := rows_map (g := A2.cells) (G := A2.wf) (fun x hx => by
      obtain ⟨hl, hj⟩ := hx
      obtain ⟨u0, y0, n0, e0, h0⟩ := hj 0 f0 rfl
      obtain ⟨u1, y1, n1, e1, h1⟩ := hj 1 f1 rfl
      rw [t0] at h0
      rw [t1] at h1
      obtain ⟨a0, rfl, w0⟩ := field_int hi h0
      obtain ⟨a1, rfl, w1⟩ := field_int hi h1
      match x, hl with
      | [x0, x1], _ =>
        simp at e0 e1
        subst e0 e1
        exact ⟨⟨a0, a1⟩, rfl, i64_b w0, i64_b w1⟩) rows hr
    exact ⟨l, hS.of_map, hl⟩

theorem open_A5 {r : Reach} {b0 : Nat} {t e i k : TypeId} {fs : Array Field} {v : Value} {d : DataW H} {p : List MemPlace} (ht : P.underlying t = some (.slice e)) (he : P.underlying e = some (.struct fs))
    (hone : oneCellFields P fs = true) (hC : P.cellsOf e = fs.size) (hi : P.underlying i = some (.int .i64)) (hk : P.underlying k = some (.int .u64)) (hf : fs.toList.map (·.type) = [i, i, i, i, k])
    (hv : Value.okWide P w r b0 t v) (h : DataW.Trod enc P w 0 (fun _ => true) true t v d p) :
    ∃ l : List A5, SS w (fun i => i < w.heap.size) A5.cells 5 v l ∧ ∀ x ∈ l, A5.wf x := by
  obtain ⟨fs⟩ := fs
  have hlen : fs.length = 5 := by simpa using congrArg List.length hf
  match fs, hlen with
  | [f0, f1, f2, f3, f4], _ =>
    simp only [List.map_cons, List.map_nil, List.cons.injEq, and_true] at hf
    obtain ⟨t0, t1, t2, t3, t4⟩ := hf
    obtain ⟨rows, hS, hr⟩ := open_rows ht he hone hC (by simp) hv h
    obtain ⟨l, rfl, hl⟩ := rows_map (g := A5.cells) (G := A5.wf) (fun x hx => by
      obtain ⟨hl, hj⟩ := hx
      obtain ⟨u0, y0, n0, e0, h0⟩ := hj 0 f0 rfl
      obtain ⟨u1, y1, n1, e1, h1⟩ := hj 1 f1 rfl
      obtain ⟨u2, y2, n2, e2, h2⟩ := hj 2 f2 rfl
      obtain ⟨u3, y3, n3, e3, h3⟩ := hj 3 f3 rfl
      obtain ⟨u4, y4, n4, e4, h4⟩ := hj 4 f4 rfl
      rw [t0] at h0
      rw [t1] at h1
      rw [t2] at h2
      rw [t3] at h3
      rw [t4] at h4
      obtain ⟨a0, rfl, w0⟩ := field_int hi h0
      obtain ⟨a1, rfl, w1⟩ := field_int hi h1
      obtain ⟨a2, rfl, w2⟩ := field_int hi h2
      obtain ⟨a3, rfl, w3⟩ := field_int hi h3
      obtain ⟨a4, rfl, w4⟩ := field_int hk h4
      match x, hl with
      | [x0, x1, x2, x3, x4], _ =>
        simp at e0 e1 e2 e3 e4
        subst e0 e1 e2 e3 e4
        exact ⟨⟨a0, a1, a2, a3, a4⟩, rfl, i64_b w0, i64_b w1, i64_b w2, i64_b w3, u64_b w4⟩) rows hr
    exact ⟨l, hS.of_map, hl⟩
end
end Go.Proofs.YtihmkkjmnbehbaaGreat.RL
