/- Contracts of package graph over parts of memory: Nodes, Words; the fixed fact of layer 18. No condition. -/
import Derived.Test.YtoldhaomacnigaaGrJ
import Derived.Test.YtoldhaomacnigaaSameP
set_option linter.unusedVariables false
set_option linter.unusedSimpArgs false
namespace Go.Proofs.Ytoldhaomacnigaa.Gr
open Go.RowKit Go.Proofs.Ytoldhaomacnigaa.W Go.Proofs.Ytoldhaomacnigaa Go.Proofs.Ytoldhaomacnigaa.Sm
theorem sum_le {α : Type} {l : List α} {f : α → Nat} {b : Nat} (h : ∀ x ∈ l, f x ≤ b) : (l.map f).sum ≤ l.length * b := by
  induction l with
  | nil => simp
  | cons x r ih =>
    have h1 := ih (fun y hy => h y (List.mem_cons_of_mem _ hy))
    have h2 := h x List.mem_cons_self
    simp only [List.map_cons, List.sum_cons, List.length_cons, Nat.add_mul, Nat.one_mul]
    omega
section
variable {W w : World} {oo : Nat → Prop} {g H : Nat} {s : GS} {N : NL}
set_option maxRecDepth 20000 in
set_option maxHeartbeats 4000000 in
theorem Words_in (h : SepO W oo w (gparts g H s.largest s.hs N)) (hs : s.ok) (hN : N.map (·.1) = s.nodes) (hn : N.length ≤ 1000) :
    Calls Try.prog 13 #[pt g] w fun e w' => e = .returned (.int .i64 (words s)) ∧ SepO W oo w' (gparts g H s.largest s.hs N) := by
  have hN1 : N.length = s.nodes.length := by rw [← hN]; simp
  have hok := live_ok hs
  rw [← hN1] at hok
  have hol := hok.len
  have hlv := live_in h hs hN hn
  obtain ⟨R, hR⟩ : ∃ R, live s = R := ⟨_, rfl⟩
  obtain ⟨f, hf⟩ : ∃ f : Nat → Nat, f = fun x => (nod s x).refs.length + (nod s x).scal.length + 2 := ⟨_, rfl⟩
  have hwd : words s = (R.map f).sum := by unfold words; rw [hR, hf]
  have hfb : ∀ x ∈ R, f x ≤ 66 := fun x hx => by
    rw [← hR] at hx
    rw [hR] at hok
    rw [hR] at hx
    have := (nod_at hs (hok.pos x hx) (by rw [← hN1]; exact hok.le x hx)).2.2.2
    rw [hf]; simp only []; omega
  rw [hR] at hlv hok hol
  have HLV := Lib.hid hlv
  have HS := Lib.hid hs
  have HN := Lib.hid hN
  have HN1 := Lib.hid hN1
  have HOK := Lib.hid hok
  have HWD := Lib.hid hwd
  have HF := Lib.hid hf
  have HFB := Lib.hid hfb
  clear hlv hs hN hN1 hok hwd hR h hf hfb
  go_enter Try.func13, Try.ntmps13
  go_wp2_with fail
  refine HLV.out.mono ?_
  rintro e w1 ⟨M, O, mg, A, c, rfl, h1⟩
  have H1 := Lib.hid h1
  clear h1 HLV
  go_wp2_with fail
  go_loopg [5, 17] R.length (fun gk v z wr => ∃ (j : Nat), j + gk = R.length ∧ z = .int .i64 j ∧ v = .int .i64 (((R.take j).map f).sum : Nat) ∧ SepO W oo wr (gparts g H s.largest s.hs N ++ lv M O mg A c N R))
  case atStart => exact ⟨0, by omega, rfl, rfl, H1.out⟩
  case round =>
    clear H1
    obtain ⟨j, hj, rfl, rfl, h⟩ := hrel
    have HJ := Lib.hid hj
    have hjl : j ≤ R.length := by omega
    clear hj
    have hsb : ((R.take j).map f).sum ≤ 66000 := by
      have h1 := sum_le (l := R.take j) (f := f) (b := 66) (fun x hx => HFB.out x (List.mem_of_mem_take hx))
      have h2 := List.length_take_le j R
      have h3 : (R.take j).length * 66 ≤ 1000 * 66 := Nat.mul_le_mul_right _ (by omega)
      omega
    by_cases hlt : j < R.length
    · obtain ⟨x, hx⟩ : ∃ x, R[j]? = some x := ⟨_, List.getElem?_eq_getElem hlt⟩
      have hxm := List.mem_of_getElem? hx
      have hx1 := HOK.out.le x hxm
      rw [HN1.out] at hx1
      obtain ⟨p, hp, hp1, hpv⟩ := node_at HS.out HN.out (HOK.out.pos x hxm) hx1
      obtain ⟨G, off, rfl, hcell, hnc⟩ := row_cell h ((gparts g H s.largest s.hs N).length + 3) (e := 59) (A := A) (n := R.length) (c := c) (xs := R.map (pv N)) (by simp [lv]) hlt
      have cx : wr.cell? ⟨G, off + j, none⟩ = some (pt p.2.b) := by rw [hcell, List.getElem?_map, hx]; simp [hpv]
      have hnok := (nod_at HS.out (HOK.out.pos x hxm) hx1).2
      rw [← hp1] at hnok
      have hrl : p.1.refs.length ≤ 64 := by have := hnok.2.2; omega
      have hsl : p.1.scal.length ≤ 64 := by have := hnok.2.2; omega
      have y0 : wr.cell? ⟨p.2.b, 0, none⟩ = some (slv p.2.r p.1.refs.length) := by have := (g_node h.first hp).cell 0; simpa using this
      have y1 : wr.cell? ⟨p.2.b, 1, none⟩ = some (slv p.2.s p.1.scal.length) := by have := (g_node h.first hp).cell 1; simpa using this
      have hstep : ((R.take (j + 1)).map f).sum = ((R.take j).map f).sum + (p.1.refs.length + p.1.scal.length + 2) := by
        rw [List.take_succ_eq_append_getElem hlt, List.map_append, List.sum_append]
        have : R[j] = x := by
          rw [List.getElem?_eq_getElem hlt] at hx
          exact Option.some.inj hx
        rw [this, HF.out, hp1]
        simp
      generalize ((R.take j).map f).sum = t at *
      generalize hk1 : p.1.refs.length = k1 at *
      generalize hk2 : p.1.scal.length = k2 at *
      have H0 := Lib.hid h
      have HST := Lib.hid hstep
      clear h hstep hx hxm hp hp1 hpv hnok hcell hx1 hk1 hk2
      go_wp2_with fail
      go_quiet (fail)
      go_wp2_with fail
      go_roundg (gk - 1)
      case measure => have := HJ.out; omega
      case rel => exact ⟨j + 1, by have := HJ.out; omega, by go_num, by rw [HST.out]; go_num, H0.out.drewN _⟩
    · have hje : j = R.length := by omega
      subst hje
      have e : ((R.take R.length).map f).sum = words s := by rw [List.take_length, HWD.out]
      have HE := Lib.hid e
      have H0 := Lib.hid h
      generalize ((R.take R.length).map f).sum = t at *
      clear h e
      go_wp2_with fail
      go_ret
      exact ⟨by rw [← HE.out]; rfl, H0.out.first⟩
end
section
variable {W w : World} {oo : Nat → Prop} {g : Nat} {s : GS} {l : List Pr}
theorem Words_sep (h : SepO W oo w l) (k : Nat) (hk : l[k]? = some (Gph g s)) (hn : s.nodes.length ≤ 1000) : Calls Try.prog 13 #[pt g] w fun e w' => e = .returned (.int .i64 (words s)) ∧ SepO W oo w' l := by
  have := Gph_lift (s' := s) (Q := fun e => e = .returned (.int .i64 (words s))) (fun o H N h hs hN => (Words_in h hs hN (by rw [← hN] at hn; simpa using hn)).mono fun e w' ⟨he, h'⟩ => ⟨he, N, h', hN⟩) id h k hk
  rwa [set_self hk] at this
theorem Nodes_sep (h : SepO W oo w l) (k : Nat) (hk : l[k]? = some (Gph g s)) (hn : s.nodes.length ≤ 1000) : Calls Try.prog 15 #[pt g] w fun e w' => ∃ v hv, e = .returned (.tuple #[v, hv]) ∧ SepO W oo w' (l ++ [NodesP v (shown s), IntsP hv (helds s)]) := by
  obtain ⟨o, ⟨⟨H, N⟩, ⟨hok, hN⟩, hsep⟩, _, hup⟩ := h.open_ k hk
  refine (Nodes_in (SepO.enter hsep) hok hN (by rw [← hN] at hn; simpa using hn)).mono ?_
  rintro e w' ⟨v, hv, he, h'⟩
  refine ⟨v, hv, he, ?_⟩
  have h1 := hup w' (sepP (gparts g H s.largest s.hs N ++ [NodesP v (shown s), IntsP hv (helds s)])) h'.leave h'.keep0
  have hkl := (List.getElem?_eq_some_iff.1 hk).1
  have h2 := h1.split_mid (A := gparts g H s.largest s.hs N) (B := [NodesP v (shown s), IntsP hv (helds s)]) k (by rw [List.getElem?_set, if_pos rfl, if_pos hkl])
  rw [List.set_set] at h2
  have h3 := h2.weak (Q := Gph g s) k (by rw [List.getElem?_append_left (by simpa using hkl), List.getElem?_set, if_pos rfl, if_pos hkl]) (fun w o hp => ⟨(H, N), ⟨hok, hN⟩, hp⟩)
  rw [List.set_append_left _ _ (by simpa using hkl), List.set_set, set_self hk] at h3
  exact h3
theorem nodes_of_part (h : SepO W oo w l) {v : Value} {L : List (List Int × List Int)} (k : Nat) (hk : l[k]? = some (NodesP v L)) : NS w (fun i => i < w.heap.size) v L := by
  obtain ⟨o, hp, ho⟩ := h.get k hk
  exact NS.mono hp (fun i hi => (ho i hi).2)
theorem ints_of_part (h : SepO W oo w l) {v : Value} {L : List Int} (k : Nat) (hk : l[k]? = some (IntsP v L)) : SL w (fun i => i < w.heap.size) .i64 v L := by
  obtain ⟨o, hp, ho⟩ := h.get k hk
  exact SL.mono hp (fun i hi => (ho i hi).2)
end
end Go.Proofs.Ytoldhaomacnigaa.Gr
