/- Contracts of the reference's graph: Words, New. No condition. -/
import Derived.Test.YtoldhaomacnigaaRgG
import Derived.Deep.RegionLaw
import Derived.Deep.DeepCutAuto
import Derived.Deep.CutBlock
set_option linter.unusedVariables false
set_option linter.unusedSimpArgs false
namespace Go.Proofs.Ytoldhaomacnigaa.Rg
open Go.RowKit Go.Proofs.Ytoldhaomacnigaa.W Go.Proofs.Ytoldhaomacnigaa Go.Proofs.Ytoldhaomacnigaa.Gr
theorem live_row {W w : World} {oo : Nat → Prop} {L l : List Pr} {A : Option Addr} {c : Nat} {R : List Nat} (h : SepO W oo w (L ++ rowP 3 A R.length c (nats R) :: l)) {i : Nat} (hi : i < R.length) : ∃ G off, A = some ⟨G, off, none⟩ ∧ w.cell? ⟨G, off + i, none⟩ = some (.int .i64 ((R[i]'hi : Nat) : Int)) ∧ R.length ≤ c := by
  obtain ⟨o, hq, _⟩ := h.row L.length at_last
  obtain ⟨G, off, hA, _, _, hc, _⟩ := hq.at_ hi
  exact ⟨G, off, hA, by rw [hc i hi, nats_get hi]; simp [hi], hq.2.1⟩
section
variable {W w : World} {oo : Nat → Prop} {g : Nat} {s : GS} {k : RK} {N : RL}
set_option maxRecDepth 20000 in
set_option maxHeartbeats 4000000 in
theorem Words_in (h : SepO W oo w (rparts g s.largest k s.hs N)) (hs : s.ok) (hN : N.map (·.1) = s.nodes) (hn : N.length ≤ 1000) :
    Calls Try.prog 14 #[pt g] w fun e w' => e = .returned (.int .i64 (words s)) ∧ SepO W oo w' (rparts g s.largest k s.hs N) := by
  have hN1 : N.length = s.nodes.length := by rw [← hN]; simp
  have hok := live_ok hs
  rw [← hN1] at hok
  have hol := hok.len
  have hlv := Live_in h hs hN hn
  obtain ⟨G, hA, _, _, hkc⟩ := r_row h
  have fc := fun (X : World) (l : List Pr) (hX : SepO W oo X (rparts g s.largest k s.hs N ++ l)) => r_cells hX
  have fn := fun (X : World) (l : List Pr) (hX : SepO W oo X (rparts g s.largest k s.hs N ++ l)) (i : Nat) (p : GN × RB) (h0 : i ≠ 0) (hp : N[i - 1]? = some p) => r_node hX.first h0 hp hA
  rw [hA] at fc
  obtain ⟨R, hR⟩ : ∃ R, live s = R := ⟨_, rfl⟩
  obtain ⟨f, hf⟩ : ∃ f : Nat → Nat, f = fun x => (nod s x).refs.length + (nod s x).scal.length + 2 := ⟨_, rfl⟩
  have hwd : words s = (R.map f).sum := by unfold words; rw [hR, hf]
  rw [hR] at hlv hok hol
  have hfb : ∀ x ∈ R, f x ≤ 66 := fun x hx => by
    have := (nod_at hs (hok.pos x hx) (by rw [← hN1]; exact hok.le x hx)).2.2.2
    rw [hf]; simp only []; omega
  have HLV := Lib.hid hlv
  have HS := Lib.hid hs
  have HN := Lib.hid hN
  have HN1 := Lib.hid hN1
  have HOK := Lib.hid hok
  have HWD := Lib.hid hwd
  have HF := Lib.hid hf
  have HFB := Lib.hid hfb
  have FC := Lib.hid fc
  have FN := Lib.hid fn
  clear hlv hs hN hN1 hok hwd hR h hf hfb fc fn hA
  go_enter Try.func14, Try.ntmps14
  go_wp2_with fail
  refine HLV.out.mono ?_
  rintro e w1 ⟨A, c, rfl, h1⟩
  have H1 := Lib.hid h1
  clear h1 HLV
  go_wp2_with fail
  go_loopg [4, 5] R.length (fun gk v z wr => ∃ (j : Nat), j + gk = R.length ∧ z = .int .i64 j ∧ v = .int .i64 (((R.take j).map f).sum : Nat) ∧ SepO W oo wr (rparts g s.largest k s.hs N ++ [rowP 3 A R.length c (nats R)]))
  case atStart => exact ⟨0, by omega, rfl, rfl, H1.out⟩
  case round =>
    clear H1
    obtain ⟨j, hj, rfl, rfl, h⟩ := hrel
    have HJ := Lib.hid hj
    have hjl : j ≤ R.length := by omega
    clear hj
    have hsb : ((R.take j).map f).sum ≤ 66000 := by
      have h1 := sum_le (l := R.take j) (f := f) (b := 66) (fun x hx => HFB.out x (List.mem_of_mem_take hx))
      have h2 := List.length_take_le j R
      have h3 : (R.take j).length * 66 ≤ 1000 * 66 := Nat.mul_le_mul_right _ (by omega)
      omega
    by_cases hlt : j < R.length
    · obtain ⟨x, hx⟩ : ∃ x, R[j] = x := ⟨_, rfl⟩
      have hxm : x ∈ R := by rw [← hx]; exact List.getElem_mem _
      have hx1 := HOK.out.le x hxm
      have hx0 := HOK.out.pos x hxm
      obtain ⟨p, hp, hp1⟩ := rnode_at HS.out HN.out hx0 (by rw [← HN1.out]; exact hx1)
      obtain ⟨Go, off, rfl, hcell, hnc⟩ := live_row h hlt
      rw [hx] at hcell
      obtain ⟨c0, -, -⟩ := FC.out _ _ h
      obtain ⟨y0, y1⟩ := FN.out _ _ h x p hx0 hp
      have hnok := (nod_at HS.out hx0 (by rw [← HN1.out]; exact hx1)).2
      rw [← hp1] at hnok
      have hrl : p.1.refs.length ≤ 64 := by have := hnok.2.2; omega
      have hsl : p.1.scal.length ≤ 64 := by have := hnok.2.2; omega
      have hstep : ((R.take (j + 1)).map f).sum = ((R.take j).map f).sum + (p.1.refs.length + p.1.scal.length + 2) := by
        rw [List.take_succ_eq_append_getElem hlt, List.map_append, List.sum_append, hx, HF.out, hp1]
        simp
      generalize ((R.take j).map f).sum = t at *
      generalize hk1 : p.1.refs.length = k1 at *
      generalize hk2 : p.1.scal.length = k2 at *
      have H0 := Lib.hid h
      have HST := Lib.hid hstep
      clear h hstep hx hxm hp hp1 hnok hk1 hk2
      go_wp2_with fail
      go_quiet (fail)
      go_wp2_with fail
      go_roundg (gk - 1)
      case measure => have := HJ.out; omega
      case rel => exact ⟨j + 1, by have := HJ.out; omega, by go_num, by rw [HST.out]; go_num, H0.out.drewN _⟩
    · have hje : j = R.length := by omega
      subst hje
      have e : ((R.take R.length).map f).sum = words s := by rw [List.take_length, HWD.out]
      have HE := Lib.hid e
      have H0 := Lib.hid h
      generalize ((R.take R.length).map f).sum = t at *
      clear h e
      go_wp2_with fail
      go_ret
      exact ⟨by rw [← HE.out]; rfl, H0.out.first⟩
end
section
variable {W w : World} {oo : Nat → Prop} {g : Nat} {s : GS} {l : List Pr}
theorem Words_sep (h : SepO W oo w l) (k : Nat) (hk : l[k]? = some (Rph g s)) (hn : s.nodes.length ≤ 1000) : Calls Try.prog 14 #[pt g] w fun e w' => e = .returned (.int .i64 (words s)) ∧ SepO W oo w' l := by
  have := Rph_lift (s' := s) (Q := fun e => e = .returned (.int .i64 (words s))) (fun o K N h hs hN => (Words_in h hs hN (by rw [← hN] at hn; simpa using hn)).mono fun e w' ⟨he, h'⟩ => ⟨he, K, N, h', hN⟩) id h k hk
  rwa [set_self hk] at this
end
end Go.Proofs.Ytoldhaomacnigaa.Rg
